/- Keys: tag. -/
import Derived.Test.YtdeeilahefnicaaRange
namespace Go.Proofs.Ytdeeilahefnicaa
set_option linter.unusedVariables false
open Go.RowKit Go.Shelf
attribute [local go_sem] Oper.semAt_some

/-- ways that end alike go on as one: what holds at the end (F), and what is left to show (G, found by the first way) -/
theorem cut_world {F : World → Prop} {A : Prop} (G : World → Prop) (h1 : (∀ V, F V → G V) → A) (h2 : ∀ V, F V → G V) : A := h1 h2

theorem u64_ok (z : Int) : U64 (IntKind.u64.wrap z) := w64_rng z
/-- the product of two, and its rest by the prime -/
noncomputable def mulP (x y : Int) : Int × Int := @dite _ (U64 x ∧ U64 y) (Classical.propDecidable _) (fun h => (Classical.choose (mul_e x y h.1 h.2), Classical.choose (Classical.choose_spec (mul_e x y h.1 h.2)))) (fun _ => (0, 0))
theorem mul_st (x y : Int) (hx : U64 x) (hy : U64 y) (w : World) : Calls Try.prog 25 #[.int .u64 x, .int .u64 y] w fun e w' => e = .returned (.tuple #[.int .u64 (mulP x y).1, .int .u64 (mulP x y).2]) ∧ w = w' := by
  unfold mulP; rw [dif_pos ⟨hx, hy⟩]
  exact (Classical.choose_spec (Classical.choose_spec (mul_e x y hx hy))).2 w
theorem mulP_ok (x y : Int) (hx : U64 x) (hy : U64 y) : U64 (mulP x y).1 ∧ U64 (mulP x y).2 := by
  unfold mulP; rw [dif_pos ⟨hx, hy⟩]
  exact (Classical.choose_spec (Classical.choose_spec (mul_e x y hx hy))).1
noncomputable def lessP (x y : Int) : Int := @dite _ (U64 x ∧ U64 y) (Classical.propDecidable _) (fun h => Classical.choose (less_e x y h.1 h.2)) (fun _ => 0)
theorem less_st (x y : Int) (hx : U64 x) (hy : U64 y) (w : World) : Calls Try.prog 24 #[.int .u64 x, .int .u64 y] w fun e w' => e = .returned (.int .u64 (lessP x y)) ∧ Below w.heap.size w w' := by
  unfold lessP; rw [dif_pos ⟨hx, hy⟩]
  exact (Classical.choose_spec (less_e x y hx hy)).2 w
theorem lessP_ok (x y : Int) (hx : U64 x) (hy : U64 y) : U64 (lessP x y) := by
  unfold lessP; rw [dif_pos ⟨hx, hy⟩]
  exact (Classical.choose_spec (less_e x y hx hy)).1

/-- a part of what reads -/
theorem Rd.sub {w : World} {b o n c : Nat} {bs : List Nat} (h : Rd w (some ⟨b, o, none⟩) n c (vb bs)) (i k : Nat) (hik : i + k ≤ n) : Rd w (some ⟨b, o + i, none⟩) k (c - i) (vb ((bs.drop i).take k)) := by
  have hl := h.len
  rw [vb_len] at hl
  have hle := h.le
  have hmx := h.max
  refine ⟨by rw [vb_len, List.length_take, List.length_drop]; omega, by omega, by omega, (fun h => by cases h), fun hk => ?_⟩
  obtain ⟨b', o', ha, hlt, hc⟩ := h.mem (by omega)
  cases ha
  refine ⟨b, o + i, rfl, hlt, fun j hj => ?_⟩
  have h1 := hc (i + j) (by omega)
  rw [← Nat.add_assoc] at h1
  rw [h1]
  simp [vb, List.getElem?_drop, hj]

/-- a piece of seven more, and the sum of some -/
noncomputable def sumF (r : Int) (bs : List Nat) (s : Int) (k : Nat) : Int :=
  let x := IntKind.u64.wrap (IntKind.u64.wrap (s + ((numN (piece bs 7 k) : Nat) : Int)) + IntKind.u64.wrap (2 ^ (8 * pl bs.length 7 k)))
  lessP (mulP x r).1 (mulP x r).2
noncomputable def sumL (r : Int) (bs : List Nat) (l : List Nat) : Int := l.foldl (sumF r bs) 0
theorem sumL_snoc (r : Int) (bs : List Nat) (l : List Nat) (k : Nat) : sumL r bs (l ++ [k]) = sumF r bs (sumL r bs l) k := by simp [sumL]
noncomputable def tagR (ws : List Int) (c : Nat) : Int := ((numN ((Bk ws c 0).take 8) % 2305843009213693951 : Nat) : Int)
noncomputable def tagS (ws : List Int) (c : Nat) : Int := ((numN (((Bk ws c 0).drop 8).take 8) % 2305843009213693951 : Nat) : Int)

/-- eight bytes of a number, the highest first -/
def t8 (z : Nat) : Nat → List Nat
  | 0 => []
  | i + 1 => t8 z i ++ [z / 2 ^ (56 - 8 * i) % 256]
theorem t8_len (z i : Nat) : (t8 z i).length = i := by
  induction i with
  | zero => rfl
  | succ i ih => rw [t8, List.length_append, ih]; rfl
theorem t8_b (z i : Nat) : AllB (t8 z i) := by
  induction i with
  | zero => exact AllB.nil
  | succ i ih => exact ih.append (fun x hx => by simp at hx; omega)
noncomputable def tagZ (ws : List Int) (c : Nat) (bs : List Nat) : Nat := (IntKind.u64.wrap (sumL (tagR ws c) bs (List.range (pieces bs.length 7)) + tagS ws c) % 2305843009213693951).toNat
/-- the tag -/
noncomputable def Tg (ws : List Int) (c : Nat) (bs : List Nat) : List Nat := t8 (tagZ ws c bs) 8
theorem Tg_len (ws : List Int) (c : Nat) (bs : List Nat) : (Tg ws c bs).length = 8 := t8_len _ _
theorem Tg_b (ws : List Int) (c : Nat) (bs : List Nat) : AllB (Tg ws c bs) := t8_b _ _
theorem U64.nat (x : Nat) (h : x < 18446744073709551616) : U64 (x : Int) := ⟨by omega, by omega⟩
theorem sumL_ok (r : Int) (bs : List Nat) (hr : U64 r) (l : List Nat) : U64 (sumL r bs l) := by
  have h0 : U64 0 := ⟨by decide, by decide⟩
  have key : ∀ (l : List Nat) (s : Int), U64 s → U64 (l.foldl (sumF r bs) s) := by
    intro l
    induction l with
    | nil => intro s hs; exact hs
    | cons k l ih =>
      intro s hs
      rw [List.foldl_cons]
      apply ih
      have h := mulP_ok _ r (u64_ok (IntKind.u64.wrap (s + ((numN (piece bs 7 k) : Nat) : Int)) + IntKind.u64.wrap (2 ^ (8 * pl bs.length 7 k)))) hr
      exact lessP_ok _ _ h.1 h.2
  exact key l 0 h0
theorem tagOwn (hb sb : Nat) (v : Value) (x : Value) (A B : World) (row : Option Nat) (hs : Boxed A hb 49 v ∧ Boxed A sb 49 x)
    (hg : A.grownBy B row) (hr : ∀ r, row = some r → ∃ o : Obj, A.heap[r]? = some o ∧ o.isCells = false) : Boxed B hb 49 v ∧ Boxed B sb 49 x := by
  have key : ∀ (b : Nat) (t : TypeId) (x : Value), Boxed A b t x → Boxed B b t x := fun b t x h => h.kept hg (fun e' => by
    obtain ⟨o, ho, hc⟩ := hr b e'.symm
    rw [show A.heap[b]? = _ from h] at ho; cases ho; cases hc)
  exact ⟨key _ _ _ hs.1, key _ _ _ hs.2⟩

set_option maxRecDepth 100000 in
set_option maxHeartbeats 4000000 in
theorem tag_ok (wa : Option Addr) (wc : Nat) (ws : List Int) (c : Nat) (ub uo un uc : Nat) (bs : List Nat) (w : World) (hW : Rd w wa 8 wc (vz ws)) (hws : Words ws) (hc : c < 281474976710656) (hu : Rd w (some ⟨ub, uo, none⟩) un uc (vb bs)) (hb : AllB bs) (hun : un ≤ 3000) :
    Calls Try.prog 13 #[.slice wa 8 wc, .int .i64 (c : Int), .slice (some ⟨ub, uo, none⟩) un uc] w fun e w' => ∃ oa oc, e = .returned (.slice oa 8 oc) ∧ w'.ownsRow w.heap.size 5 1 (.slice oa 8 oc) 8 (vb (Tg ws c bs)) ∧ Below w.heap.size w w' := by
  obtain ⟨i0, hi0, hz0, hz1, hz2⟩ := info_parts Try.info5
  refine (callsIn_wide (n := 8)).1 ?_
  have hro : Fence.wide.round = none := rfl
  have h1 : 1 ≤ 8 := by decide
  refine callsIn_of_wp_marks Try.func13 rfl trivial ?_ hro
  simp only [Try.ntmps13, List.size_toArray, List.length_cons, List.length_nil, Nat.reduceAdd, Nat.reduceSub, Array.replicate_succ, Array.replicate_zero, List.push_toArray, List.append_toArray, List.nil_append, List.cons_append]
  refine wpIn_wide.2 ?_
  go_wp2_with fail
  refine (block_ok wa wc ws c 0 w hW hws hc (by decide)).mono ?_
  rintro e V ⟨oa, oc, rfl, oB, bV⟩
  obtain ⟨pb, rfl⟩ := own_addr oB (by decide)
  have hoc : 64 ≤ oc := (Rd.ofOwn oB).le
  have Hoc : Hid (oc ≤ maxLen) := (Rd.ofOwn oB).max
  have r8 : Rd V (some ⟨pb, 0, none⟩) 8 oc (vb ((Bk ws c 0).take 8)) := by
    have := (Rd.ofOwn oB).sub 0 8 (by decide)
    simpa using this
  have r16 : Rd V (some ⟨pb, 8, none⟩) 8 (oc - 8) (vb (((Bk ws c 0).drop 8).take 8)) := by
    have := (Rd.ofOwn oB).sub 8 8 (by decide)
    rwa [Nat.zero_add] at this
  have ab := Bk_b ws c 0
  have tS : tagS ws c = ((numN (((Bk ws c 0).drop 8).take 8) % 2305843009213693951 : Nat) : Int) := rfl
  have tR : tagR ws c = ((numN ((Bk ws c 0).take 8) % 2305843009213693951 : Nat) : Int) := rfl
  have r8 := r8.below ((Below.refl _ V).drew)
  have r16 := r16.below ((Below.refl _ V).drew)
  have bVs := bV.size
  have bV := bV.drew
  have tr : IntKind.u64.wrap 0 = 0 := by kernel_rfl
  obtain ⟨x8, hx8⟩ : ∃ x : Int, x = (numN ((Bk ws c 0).take 8) : Nat) := ⟨_, rfl⟩
  obtain ⟨x16, hx16⟩ : ∃ x : Int, x = (numN (((Bk ws c 0).drop 8).take 8) : Nat) := ⟨_, rfl⟩
  have p8 : 0 ≤ x8 := by omega
  have p16 : 0 ≤ x16 := by omega
  have n8 : ∀ w', Below V.heap.size V.drew w' → Calls Try.prog 17 #[.slice (some ⟨pb, 0, none⟩) 8 oc] w' fun e w'' => e = .returned (.int .u64 x8) ∧ w' = w'' := fun w' hw => by
    rw [hx8]; exact number_ok _ 8 oc _ w' (r8.below hw) (ab.take 8) (by decide)
  have n16 : ∀ w', Below V.heap.size V.drew w' → Calls Try.prog 17 #[.slice (some ⟨pb, 8, none⟩) 8 (oc - 8)] w' fun e w'' => e = .returned (.int .u64 x16) ∧ w' = w'' := fun w' hw => by
    rw [hx16]; exact number_ok _ 8 (oc - 8) _ w' (r16.below hw) ((ab.drop 8).take 8) (by decide)
  have m8 : x8 % 2305843009213693951 = tagR ws c := by rw [tR, hx8]; omega
  have m16 : x16 % 2305843009213693951 = tagS ws c := by rw [tS, hx16]; omega
  have o1 : (8 : Int) ≤ (oc : Int) := by omega
  have o2 : (16 : Int) ≤ (oc : Int) := by omega
  have o3 : ¬ oc = 8 := by omega
  have hVs : V.drew.heap.size = V.heap.size := rfl
  clear tR tS hx8 hx16 r8 r16 oB
  obtain ⟨U, hU⟩ : ∃ U, U = V.drew := ⟨_, rfl⟩
  rw [← hU] at n8 n16 bV hVs
  have HU := hid hU
  clear hU
  go_wp2_with fail
  apply cut_world (F := fun V' => Boxed V' V.heap.size 49 (.int .u64 (tagR ws c)) ∧ Below w.heap.size w V')
  · intro HF
    refine wp_region_plan [2, 6, 8, 9] (Plan.of [0, 1, 4, 5] (.two 2 (Plan.of [3] (.two 6 (Plan.of [7, 8, 9, 10] .nil) 8 (Plan.of [6, 7, 9, 10] .nil))) 8 (Plan.of [2, 3, 6, 7, 9, 10] .nil))) (Below V.heap.size) (fun _ => Below.refl _ _) (fun _ _ _ h k => h.trans k) (by kernel_rfl) (by kernel_rfl) ?_
    simp only [Plan.of, Plan.lay, List.contains_cons, List.contains_nil, List.getD_cons_zero, List.getD_cons_succ, Nat.reduceBEq, Bool.or_false, Bool.or_true]
    rw [← HU.out]
    repeat (refine wpTL_do rfl (fun w' hw' => (by go_simp; rfl)) ?_; simp only [Act.put, List.setIfInBounds_toArray, List.set_cons_succ, List.set_cons_zero])
    refine wpTL_two ?_ ?_
    · refine wpTL_call rfl (fun K hK => ?_)
      go_wp2_with fail
      refine (n8 U (Below.refl _ _)).mono ?_
      rintro e w' ⟨rfl, rfl⟩
      refine hK _ _ (Below.refl _ _) ?_
      clear hK K
      try simp only [Act.put, List.setIfInBounds_toArray, List.set_cons_succ, List.set_cons_zero]
      repeat (refine wpTL_do rfl (fun w' hw' => (by go_simp; rfl)) ?_; simp only [Act.put, List.setIfInBounds_toArray, List.set_cons_succ, List.set_cons_zero])
      refine wpTL_two ?_ ?_
      · skip
        refine wpTL_call rfl (fun K hK => ?_)
        go_wp2_with fail
        refine (n16 U (Below.refl _ _)).mono ?_
        rintro e w' ⟨rfl, rfl⟩
        refine hK _ _ (Below.refl _ _) ?_
        clear hK K
        try simp only [Act.put, List.setIfInBounds_toArray, List.set_cons_succ, List.set_cons_zero]
        repeat (refine wpTL_do rfl (fun w' hw' => (by go_simp; rfl)) ?_; simp only [Act.put, List.setIfInBounds_toArray, List.set_cons_succ, List.set_cons_zero])
        refine wpTL_call rfl (fun K hK => ?_)
        go_wp2_with fail
        have bA := below_alloc U (.cells #[.int .u64 0] 49)
        have hx := heap_alloc_new U (.cells #[.int .u64 0] 49)
        refine hK _ _ (bA.mono (Nat.le_of_eq hVs.symm)) ?_
        clear hK K
        try simp only [Act.put, List.setIfInBounds_toArray, List.set_cons_succ, List.set_cons_zero]
        have bA2 : Below V.heap.size U (U.alloc (.cells #[.int .u64 0] 49)) := bA.mono (Nat.le_of_eq hVs.symm)
        have bV := bV.trans (bA.mono (Nat.le_trans bV.size (Nat.le_refl _)))
        rw [hVs] at hx
        generalize U.alloc (.cells #[.int .u64 0] 49) = U2 at *
        repeat (refine wpTL_do rfl (fun w' hw' => (by go_simp; rfl)) ?_; simp only [Act.put, List.setIfInBounds_toArray, List.set_cons_succ, List.set_cons_zero])
        have fz := frozen_row hx 0
        have cx : U2.cell? ⟨V.heap.size, 0, none⟩ = some (.int .u64 0) := by rw [cell_of_row _ _ _ _ _ _ hx]; rfl
        refine wpTL_call rfl (fun K hK => ?_)
        go_wp2_with fail
        obtain ⟨hx2, g2⟩ := set_row (cs' := #[.int .u64 (x8 % 2305843009213693951)]) hx 0 (.int .u64 (x8 % 2305843009213693951)) rfl
        refine hK _ _ ((Below.refl _ _).grown g2 (Nat.le_of_lt (row_lt hx)) (fun k e => by cases e; exact Nat.le_refl _)) ?_
        clear hK K
        try simp only [Act.put, List.setIfInBounds_toArray, List.set_cons_succ, List.set_cons_zero]
        have bV3 := bV.grown g2 bV.size (fun k e => by cases e; exact bVs)
        clear g2 fz cx hx
        generalize U2.setCell ⟨V.heap.size, 0, none⟩ (.int .u64 (x8 % 2305843009213693951)) = V3 at *
        rw [m8] at hx2
        repeat (refine wpTL_do rfl (fun w' hw' => (by go_simp; rfl)) ?_; simp only [Act.put, List.setIfInBounds_toArray, List.set_cons_succ, List.set_cons_zero])
        refine wpTL_nil ?_
        exact HF V3 ⟨hx2, bV3⟩
      · skip
        refine wpTL_call rfl (fun K hK => ?_)
        go_wp2_with fail
        have bA := below_alloc U (.cells #[.int .u64 0] 49)
        have hx := heap_alloc_new U (.cells #[.int .u64 0] 49)
        refine hK _ _ (bA.mono (Nat.le_of_eq hVs.symm)) ?_
        clear hK K
        try simp only [Act.put, List.setIfInBounds_toArray, List.set_cons_succ, List.set_cons_zero]
        have bA2 : Below V.heap.size U (U.alloc (.cells #[.int .u64 0] 49)) := bA.mono (Nat.le_of_eq hVs.symm)
        have bV := bV.trans (bA.mono (Nat.le_trans bV.size (Nat.le_refl _)))
        rw [hVs] at hx
        generalize U.alloc (.cells #[.int .u64 0] 49) = U2 at *
        repeat (refine wpTL_do rfl (fun w' hw' => (by go_simp; rfl)) ?_; simp only [Act.put, List.setIfInBounds_toArray, List.set_cons_succ, List.set_cons_zero])
        refine wpTL_call rfl (fun K hK => ?_)
        go_wp2_with fail
        refine (n16 U2 bA2).mono ?_
        rintro e w' ⟨rfl, rfl⟩
        refine hK _ _ (Below.refl _ _) ?_
        clear hK K
        try simp only [Act.put, List.setIfInBounds_toArray, List.set_cons_succ, List.set_cons_zero]
        repeat (refine wpTL_do rfl (fun w' hw' => (by go_simp; rfl)) ?_; simp only [Act.put, List.setIfInBounds_toArray, List.set_cons_succ, List.set_cons_zero])
        have fz := frozen_row hx 0
        have cx : U2.cell? ⟨V.heap.size, 0, none⟩ = some (.int .u64 0) := by rw [cell_of_row _ _ _ _ _ _ hx]; rfl
        refine wpTL_call rfl (fun K hK => ?_)
        go_wp2_with fail
        obtain ⟨hx2, g2⟩ := set_row (cs' := #[.int .u64 (x8 % 2305843009213693951)]) hx 0 (.int .u64 (x8 % 2305843009213693951)) rfl
        refine hK _ _ ((Below.refl _ _).grown g2 (Nat.le_of_lt (row_lt hx)) (fun k e => by cases e; exact Nat.le_refl _)) ?_
        clear hK K
        try simp only [Act.put, List.setIfInBounds_toArray, List.set_cons_succ, List.set_cons_zero]
        have bV3 := bV.grown g2 bV.size (fun k e => by cases e; exact bVs)
        clear g2 fz cx hx
        generalize U2.setCell ⟨V.heap.size, 0, none⟩ (.int .u64 (x8 % 2305843009213693951)) = V3 at *
        rw [m8] at hx2
        repeat (refine wpTL_do rfl (fun w' hw' => (by go_simp; rfl)) ?_; simp only [Act.put, List.setIfInBounds_toArray, List.set_cons_succ, List.set_cons_zero])
        refine wpTL_nil ?_
        exact HF V3 ⟨hx2, bV3⟩
    · skip
      refine wpTL_call rfl (fun K hK => ?_)
      go_wp2_with fail
      have bA := below_alloc U (.cells #[.int .u64 0] 49)
      have hx := heap_alloc_new U (.cells #[.int .u64 0] 49)
      refine hK _ _ (bA.mono (Nat.le_of_eq hVs.symm)) ?_
      clear hK K
      try simp only [Act.put, List.setIfInBounds_toArray, List.set_cons_succ, List.set_cons_zero]
      have bA2 : Below V.heap.size U (U.alloc (.cells #[.int .u64 0] 49)) := bA.mono (Nat.le_of_eq hVs.symm)
      have bV := bV.trans (bA.mono (Nat.le_trans bV.size (Nat.le_refl _)))
      rw [hVs] at hx
      generalize U.alloc (.cells #[.int .u64 0] 49) = U2 at *
      repeat (refine wpTL_do rfl (fun w' hw' => (by go_simp; rfl)) ?_; simp only [Act.put, List.setIfInBounds_toArray, List.set_cons_succ, List.set_cons_zero])
      refine wpTL_call rfl (fun K hK => ?_)
      go_wp2_with fail
      refine (n8 U2 bA2).mono ?_
      rintro e w' ⟨rfl, rfl⟩
      refine hK _ _ (Below.refl _ _) ?_
      clear hK K
      try simp only [Act.put, List.setIfInBounds_toArray, List.set_cons_succ, List.set_cons_zero]
      repeat (refine wpTL_do rfl (fun w' hw' => (by go_simp; rfl)) ?_; simp only [Act.put, List.setIfInBounds_toArray, List.set_cons_succ, List.set_cons_zero])
      refine wpTL_call rfl (fun K hK => ?_)
      go_wp2_with fail
      refine (n16 U2 bA2).mono ?_
      rintro e w' ⟨rfl, rfl⟩
      refine hK _ _ (Below.refl _ _) ?_
      clear hK K
      try simp only [Act.put, List.setIfInBounds_toArray, List.set_cons_succ, List.set_cons_zero]
      repeat (refine wpTL_do rfl (fun w' hw' => (by go_simp; rfl)) ?_; simp only [Act.put, List.setIfInBounds_toArray, List.set_cons_succ, List.set_cons_zero])
      have fz := frozen_row hx 0
      have cx : U2.cell? ⟨V.heap.size, 0, none⟩ = some (.int .u64 0) := by rw [cell_of_row _ _ _ _ _ _ hx]; rfl
      refine wpTL_call rfl (fun K hK => ?_)
      go_wp2_with fail
      obtain ⟨hx2, g2⟩ := set_row (cs' := #[.int .u64 (x8 % 2305843009213693951)]) hx 0 (.int .u64 (x8 % 2305843009213693951)) rfl
      refine hK _ _ ((Below.refl _ _).grown g2 (Nat.le_of_lt (row_lt hx)) (fun k e => by cases e; exact Nat.le_refl _)) ?_
      clear hK K
      try simp only [Act.put, List.setIfInBounds_toArray, List.set_cons_succ, List.set_cons_zero]
      have bV3 := bV.grown g2 bV.size (fun k e => by cases e; exact bVs)
      clear g2 fz cx hx
      generalize U2.setCell ⟨V.heap.size, 0, none⟩ (.int .u64 (x8 % 2305843009213693951)) = V3 at *
      rw [m8] at hx2
      repeat (refine wpTL_do rfl (fun w' hw' => (by go_simp; rfl)) ?_; simp only [Act.put, List.setIfInBounds_toArray, List.set_cons_succ, List.set_cons_zero])
      refine wpTL_nil ?_
      exact HF V3 ⟨hx2, bV3⟩
  · intro V' hV'
    change Exit.then _ _ Exit.normal _ V'
    have q16 : x16.tmod 2305843009213693951 = tagS ws c := by rw [Int.tmod_eq_emod_of_nonneg p16]; exact m16
    have q8 : x8.tmod 2305843009213693951 = tagR ws c := by rw [Int.tmod_eq_emod_of_nonneg p8]; exact m8
    rw [q16, q8]
    obtain ⟨r, hr⟩ : ∃ r, r = tagR ws c := ⟨_, rfl⟩
    obtain ⟨sg, hsg⟩ : ∃ s, s = tagS ws c := ⟨_, rfl⟩
    rw [← hr] at hV' ⊢
    rw [← hsg]
    have Hr := hid hr
    have Hsg := hid hsg
    clear q16 q8 m8 m16 hr hsg n8 n16
    go_wp2_with fail
    refine ((callsIn_wide (n := 8)).1 (chunk22 8 _ _ _ 7 _ (by decide) (by decide))).mono ?_
    rintro e w' ⟨rfl, rfl⟩
    go_wp2_with fail
    obtain ⟨hbx, hB⟩ := hV'
    have bx0 := ((hbx.alloc (.cells #[.int .u64 0] 49)).alloc (.cells #[.slice (some ⟨ub, uo, none⟩) un uc] 22)).alloc (.cells #[.int .i64 7] 3)
    have bx1 := ((Boxed.new V' 49 (.int .u64 0)).alloc (.cells #[.slice (some ⟨ub, uo, none⟩) un uc] 22)).alloc (.cells #[.int .i64 7] 3)
    have bx4 := (Boxed.new (V'.alloc (.cells #[.int .u64 0] 49)) 22 (.slice (some ⟨ub, uo, none⟩) un uc)).alloc (.cells #[.int .i64 7] 3)
    have bx5 := Boxed.new ((V'.alloc (.cells #[.int .u64 0] 49)).alloc (.cells #[.slice (some ⟨ub, uo, none⟩) un uc] 22)) 3 (.int .i64 7)
    have hVl : V'.heap.size < (((V'.alloc (.cells #[.int .u64 0] 49)).alloc (.cells #[.slice (some ⟨ub, uo, none⟩) un uc] 22)).alloc (.cells #[.int .i64 7] 3)).heap.size := bx1.lt
    have hB0 : Below w.heap.size w (((V'.alloc (.cells #[.int .u64 0] 49)).alloc (.cells #[.slice (some ⟨ub, uo, none⟩) un uc] 22)).alloc (.cells #[.int .i64 7] 3)) := ((hB.alloc hB.size _).alloc (Nat.le_trans hB.size (by simp)) _).alloc (Nat.le_trans hB.size (by simp; omega)) _
    have hwb : w.heap.size ≤ V.heap.size := bVs
    have hwv : w.heap.size ≤ V'.heap.size := hB.size
    have hbl : V.heap.size < V'.heap.size := hbx.lt
    simp only [World.size_alloc] at bx4 bx5
    obtain ⟨V2, hV2⟩ : ∃ V2, V2 = ((V'.alloc (.cells #[.int .u64 0] 49)).alloc (.cells #[.slice (some ⟨ub, uo, none⟩) un uc] 22)).alloc (.cells #[.int .i64 7] 3) := ⟨_, rfl⟩
    rw [← hV2] at bx0 bx1 bx4 bx5 hB0 hVl ⊢
    clear hV2 hbx hB HU bV
    have hr2 : U64 r := by
      rw [Hr.out]
      have h9 : numN ((Bk ws c 0).take 8) % 2305843009213693951 < 2305843009213693951 := Nat.mod_lt _ (by decide)
      exact U64.nat _ (Nat.lt_trans h9 (by decide))
    refine (wpIn_wide (n := 8)).1 ?_
    refine wpIn_rangeFunc_ownG hro h1 (gf := 33) (lb := #[.pointer (some ⟨V'.heap.size + 1, 0, none⟩), .pointer (some ⟨V'.heap.size + 1 + 1, 0, none⟩)]) rfl trivial (enters_of Try.func33 (by kernel_rfl) rfl)
      (stops33 (8 - 1) (by omega) (V'.heap.size + 1) (V'.heap.size + 1 + 1) w.heap.size ub uo un uc 7 (some ⟨ub, uo, none⟩) (fun _ => rfl) (by decide) (by omega) ⟨hu.le, hu.max⟩ V2 bx4.lt bx5.lt bx4.cell bx5.cell) (fun h k => h.trans k) (kc_b (by omega) bx4.lt bx5.lt) (Below.refl _ _) (fun _ => rfl)
      (fun (pre : List (Ck (pieces un 7))) W' => (Boxed W' V.heap.size 49 (.int .u64 r) ∧ Boxed W' V'.heap.size 49 (.int .u64 (sumL r bs (pre.map (·.1))))) ∧ Below w.heap.size w W')
      (fun _ _ _ => False)
      (OwnFrom.and (Own.from (fun s A B row hs hg hr => tagOwn V.heap.size V'.heap.size (.int .u64 r) (.int .u64 (sumL r bs (s.map (·.1)))) A B row hs hg hr) _) (ownFrom_below (Nat.le_refl _) (by omega)))
      (fun _ _ _ _ _ hs _ _ => hs)
      ⟨⟨bx0, bx1⟩, hB0⟩
      (fun p => { tmps := #[.slice wa 8 wc, .int .i64 (c : Int), .slice (some ⟨ub, uo, none⟩) un uc, undef, undef, undef, .slice none 0 0, .slice (some ⟨pb, 0, none⟩) 64 oc, .pointer (some ⟨V.heap.size, 0, none⟩), .int .u64 sg, .pointer (some ⟨V'.heap.size, 0, none⟩), .slice (some ⟨ub, uo + p.1 * 7, none⟩) (pl un 7 p.1) (pl un 7 p.1), undef, undef, .slice wa 8 wc, .int .i64 (c : Int), .slice (some ⟨pb, 0, none⟩) 64 oc, .slice (some ⟨pb, 0, none⟩) 64 oc, .slice (some ⟨pb, 0, none⟩) 8 oc, .int .u64 x8, .int .u64 r, .slice (some ⟨pb, 0, none⟩) 64 oc, .slice (some ⟨pb, 8, none⟩) 8 (oc - 8), .int .u64 x16, .int .u64 sg, .slice (some ⟨ub, uo, none⟩) un uc, .func (.func 33) #[] #[.pointer (some ⟨V'.heap.size + 1, 0, none⟩), .pointer (some ⟨V'.heap.size + 1 + 1, 0, none⟩)], .slice (some ⟨ub, uo + p.1 * 7, none⟩) (pl un 7 p.1) (pl un 7 p.1), undef, undef, undef, undef, undef, undef, undef, undef, undef, undef, undef, undef, undef, undef, undef, undef, undef, undef, undef, undef, undef, undef, undef, undef, undef, undef, undef, undef, undef, undef, undef, undef], defers := [] }) ?assign ?body ?done ?stop
    case assign =>
      intro l p W K hK
      dsimp only [encCk]
      gi_wp2
      exact hK
    case body =>
      rintro l pre p W ⟨⟨hb0, hb1⟩, hB⟩ hlt
      obtain ⟨k, hk⟩ := p
      have hkm : k * 7 < un := (pieces_lt (by omega)).1 hk
      have hul : bs.length = un := by have := hu.len; rwa [vb_len] at this
      obtain ⟨hrd, hpl⟩ := (hu.below hB).piece (m := 7) (k := k) hkm
      have hpn : pl un 7 k ≤ 7 := Nat.min_le_left _ _
      have hpb : AllB (piece bs 7 k) := (hb.drop _).take _
      have hle1 : V'.heap.size < W.heap.size := hb1.lt
      have hle0 : V.heap.size < W.heap.size := hb0.lt
      have hsum := sumL_ok r bs hr2 (pre.map (·.1))
      obtain ⟨sm, hsm⟩ : ∃ z, z = sumL r bs (pre.map (·.1)) := ⟨_, rfl⟩
      rw [← hsm] at hb1 hsum
      have Hsm := hid hsm
      have Hpk : Hid (pl un 7 k = pl bs.length 7 k) := by rw [hul]; rfl
      clear hsm hul
      generalize pl un 7 k = pk at *
      generalize uo + k * 7 = qk at *
      dsimp only
      gi_wp2_with fail
      refine wpIn_region_can 14 [2, 10, 13] [0, 1, 4, 5, 6, 7, 9, 2, 3, 8, 10, 11, 12, 13] (Below W.heap.size) (fun _ => Below.refl _ _) (fun _ _ _ h k => h.trans k) (by kernel_rfl) (by kernel_rfl) (by kernel_rfl) ?_
      have ko : KeepsOthers W W.drew := KeepsOthers.drew W
      have kc : Kc w.heap.size (V'.heap.size + 1) (V'.heap.size + 1 + 1) W W.drew := ⟨(Below.refl _ W).drew, fun _ h => h, fun _ h => h⟩
      have hb0 : Boxed W.drew _ _ _ := hb0
      have hb1 : Boxed W.drew _ _ _ := hb1
      have hrd := hrd.below ((Below.refl _ W).drew)
      have hB := hB.drew
      have hWU : W.drew.heap.size = W.heap.size := rfl
      have hwW : w.heap.size ≤ W.heap.size := hB.size
      generalize W.drew = U at *
      have n0 : ∀ w', Below W.heap.size U w' → w'.cell? ⟨V'.heap.size, 0, none⟩ = some (.int .u64 sm) := fun w' hw => (hw.cell (p := ⟨V'.heap.size, 0, none⟩) hle1).trans hb1.cell
      have n1 : ∀ w', Below W.heap.size U w' → w'.cell? ⟨V.heap.size, 0, none⟩ = some (.int .u64 r) := fun w' hw => (hw.cell (p := ⟨V.heap.size, 0, none⟩) hle0).trans hb0.cell
      have e6 : IntKind.i64.wrap (8 * (pk : Int)) = 8 * (pk : Int) := IntWalk.i64_in _ (by omega)
      have e7 : (0 : Int) ≤ 8 * (pk : Int) := by omega
      have e8 : (8 * (pk : Int)).toNat = 8 * pk := by omega
      have HWU := hid hWU
      clear hWU
      simp only [List.map_cons, List.map_nil, List.contains_cons, List.contains_nil, List.getD_cons_zero, List.getD_cons_succ, Nat.reduceBEq, Bool.or_false, Bool.or_true]
      repeat (refine wpL_do rfl (fun w' hw' => (by go_simp; rfl)) ?_; simp only [Act.put, List.setIfInBounds_toArray, List.set_cons_succ, List.set_cons_zero])
      refine wpL_call rfl (fun K hK => ?_)
      go_wp2_with fail
      refine (number_ok _ pk pk _ U hrd hpb (by omega)).mono ?_
      rintro e w' ⟨rfl, rfl⟩
      refine hK _ _ (Below.refl _ _) ?_
      clear hK K
      try simp only [Act.put, List.setIfInBounds_toArray, List.set_cons_succ, List.set_cons_zero]
      obtain ⟨nn, hnn⟩ : ∃ z : Int, z = ((numN (piece bs 7 k) : Nat) : Int) := ⟨_, rfl⟩
      rw [← hnn]
      have Hnn := hid hnn
      clear hnn
      repeat (refine wpL_do rfl (fun w' hw' => (by go_simp; rfl)) ?_; simp only [Act.put, List.setIfInBounds_toArray, List.set_cons_succ, List.set_cons_zero])
      refine wpL_call rfl (fun K hK => ?_)
      go_wp2_with fail
      obtain ⟨x, hx⟩ : ∃ x, x = IntKind.u64.wrap (IntKind.u64.wrap (sm + nn) + IntKind.u64.wrap (2 ^ (8 * pk))) := ⟨_, rfl⟩
      have hx2 : U64 x := by rw [hx]; exact u64_ok _
      have Hx := hid hx
      rw [← hx]
      clear hx
      refine (mul_st x r hx2 hr2 U).mono ?_
      rintro e w' ⟨rfl, rfl⟩
      refine hK _ _ (Below.refl _ _) ?_
      clear hK K
      try simp only [Act.put, List.setIfInBounds_toArray, List.set_cons_succ, List.set_cons_zero]
      have hmo := mulP_ok x r hx2 hr2
      repeat (refine wpL_do rfl (fun w' hw' => (by go_simp; rfl)) ?_; simp only [Act.put, List.setIfInBounds_toArray, List.set_cons_succ, List.set_cons_zero])
      refine wpL_call rfl (fun K hK => ?_)
      go_wp2_with fail
      refine (less_st _ _ hmo.1 hmo.2 U).mono ?_
      rintro e U2 ⟨rfl, bL⟩
      refine hK _ _ (by have := HWU.out; rw [← this]; exact bL) ?_
      clear hK K n0 n1
      try simp only [Act.put, List.setIfInBounds_toArray, List.set_cons_succ, List.set_cons_zero]
      repeat (refine wpL_do rfl (fun w' hw' => (by go_simp; rfl)) ?_; simp only [Act.put, List.setIfInBounds_toArray, List.set_cons_succ, List.set_cons_zero])
      have hwU : w.heap.size ≤ U.heap.size := by have := HWU.out; omega
      have hb0 := Boxed.below hb0 bL
      have hb1 := Boxed.below hb1 bL
      have hB := hB.trans (bL.mono hwU)
      have ko := ko.trans (keeps_below bL)
      have kc := kc.trans (Kc.ofBelow bL hwU)
      have hwU2 : w.heap.size ≤ U2.heap.size := Nat.le_trans hwU bL.size
      clear bL
      refine wpL_nil ?_
      have c1 := hb1.cell
      have f1 := hb1.frozen
      have hsK : Hid (lessP (mulP x r).1 (mulP x r).2 = sumL r bs (pre.map (·.1) ++ [k])) := by
        show _ = _
        rw [sumL_snoc, ← Hsm.out, Hx.out, Hnn.out, Hpk.out]; rfl
      generalize lessP (mulP x r).1 (mulP x r).2 = sm2 at *
      obtain ⟨U3, hU3⟩ : ∃ U3, U3 = U2.setCell ⟨V'.heap.size, 0, none⟩ (.int .u64 sm2) := ⟨_, rfl⟩
      have g5 : U2.grownBy U3 (some V'.heap.size) := by rw [hU3]; exact grownBy_setCell' U2 _ _
      have ko := ko.trans (KeepsOthers.of_grownBy g5 fun j o ej hj => by
        cases ej
        rw [show U2.heap[V'.heap.size]? = _ from ‹Boxed U2 V'.heap.size 49 (.int .u64 sm)›] at hj; cases hj; rfl)
      have kc := kc.trans (Kc.ofGrown g5 hwU2 (fun r h => by cases h; omega))
      have hb1 : Boxed U3 V'.heap.size 49 (.int .u64 sm2) := by rw [hU3]; exact hb1.set _
      have hb0 := hb0.kept g5 (sne (by omega))
      have hB := hB.grown g5 hB.size (fun r h => by cases h; omega)
      clear g5
      have hU3' := hU3.symm
      clear hU3
      go_wp2_with fail
      refine ⟨ko.from _, kc, ⟨⟨hb0, ?_⟩, hB⟩⟩
      rw [List.map_append]; show Boxed U3 _ 49 (.int .u64 (sumL r bs (pre.map (·.1) ++ [k]))); rw [← hsK.out]; exact hb1
    case done =>
      rintro D ys W hD hys ⟨⟨hb0, hb1⟩, hB⟩ hK
      have hul : bs.length = un := by have := hu.len; rwa [vb_len] at this
      have hys2 : ys.map (·.1) = List.range (pieces bs.length 7) := by rw [hul]; exact hys
      rw [hys2] at hb1
      have hZ : Hid (tagZ ws c bs = (IntKind.u64.wrap (sumL r bs (List.range (pieces bs.length 7)) + sg) % 2305843009213693951).toNat) := by
        show _ = _
        rw [Hr.out, Hsg.out]; rfl
      generalize sumL r bs (List.range (pieces bs.length 7)) = sm at *
      have hwr := w64_rng (sm + sg)
      obtain ⟨z, hz⟩ : ∃ z, z = tagZ ws c bs := ⟨_, rfl⟩
      rw [← hz] at hZ
      have ez : IntKind.u64.wrap (sm + sg) % 2305843009213693951 = (z : Int) := by rw [hZ.out]; omega
      have ez2 : (IntKind.u64.wrap (sm + sg)).tmod 2305843009213693951 = (z : Int) := by rw [Int.tmod_eq_emod_of_nonneg hwr.1]; exact ez
      have Hz := hid hz
      have c1 := hb1.cell
      have f1 := hb1.frozen
      have hwW : w.heap.size ≤ W.heap.size := hB.size
      have hDV : V'.heap.size ≠ D := by omega
      obtain ⟨W1, hW1⟩ : ∃ W1, W1 = W.setCell ⟨V'.heap.size, 0, none⟩ (.int .u64 (z : Int)) := ⟨_, rfl⟩
      have g5 : W.grownBy W1 (some V'.heap.size) := by rw [hW1]; exact grownBy_setCell' W _ _
      have hb2 : Boxed W1 V'.heap.size 49 (.int .u64 (z : Int)) := by rw [hW1]; exact hb1.set _
      have hB2 := hB.grown g5 hwW (fun r h => by cases h; omega)
      have hK2 : W1.heap[D]? = some (.deferred (some [])) := (g5.block D (Array.getElem?_eq_some_iff.1 hK).1 (fun e => hDV (by cases e; rfl))).trans hK
      have hW1' := hW1.symm
      clear hz hW1 g5 hys hys2 hul hb0 hwr
      go_wp2_with fail
      clear c1 f1 hW1' hb1 hB hK ez ez2
      go_loopw [12, 46] (fun o' k' wr => ∃ (j : Nat) (oa : Option Addr) (oc : Nat), o' = .slice oa j oc ∧ k' = .int .i64 (j : Int) ∧ j ≤ 8 ∧ wr.ownsRow w.heap.size 5 1 (.slice oa j oc) j (vb (t8 z j)) ∧ Boxed wr V'.heap.size 49 (.int .u64 (z : Int)) ∧ Below w.heap.size w wr ∧ wr.heap[D]? = some (.deferred (some []))) (fun _ k' _ => 8 - (intOf k').toNat)
      case atStart => exact ⟨0, none, 0, rfl, rfl, by decide, World.ownsRow_nil _ _ _ _, hb2, hB2, hK2⟩
      case round =>
        clear hb2 hB2 hK2
        obtain ⟨j, oa, oc, rfl, rfl, hj, oR, hb2, hB2, hK2⟩ := hrel
        have c1 := hb2.cell
        by_cases hj8 : j < 8
        · have t1 : (j : Int) < 8 := by omega
          have e1 : IntKind.i64.wrap (8 * (j : Int)) = 8 * (j : Int) := IntWalk.i64_in _ (by omega)
          have e2 : IntKind.i64.wrap (56 - 8 * (j : Int)) = 56 - 8 * (j : Int) := IntWalk.i64_in _ (by omega)
          have e3 : (0 : Int) ≤ 56 - 8 * (j : Int) := by omega
          have e4 : (56 - 8 * (j : Int)).toNat = 56 - 8 * j := by omega
          obtain ⟨y, hy⟩ : ∃ y, y = z / 2 ^ (56 - 8 * j) % 256 := ⟨_, rfl⟩
          have e5 : IntKind.u8.wrap ((z : Int) / 2 ^ (56 - 8 * j)) = (y : Int) := by rw [hy, IntKind.wrap_u8]; simp
          have HT : Hid (t8 z (j + 1) = t8 z j ++ [y]) := by show _ = _; rw [hy]; rfl
          clear hy
          go_wp2_with (at_builtin; refine hold ?_)
          unfold Hid
          have g7 := below_alloc wr (.cells #[.int .u8 (y : Nat)] 5)
          have o7 := ownsRow_below oR g7
          refine wpList_append_own_at _ rfl _ _ 22 rfl w.heap.size 5 i0 _ 1 1 Try.underlying22 hi0 hz0 hz1 hz2 rfl (by decide) (.slice oa j oc) j (vb (t8 z j)) rfl o7 ⟨wr.heap.size, 0, none⟩ 1 1 (vb [y]) rfl rfl (cell_one_new _ _ _) (vb_oneCell _) (by unfold maxLen; omega) (by omega) (Nat.le_trans hB2.size g7.size) ?_
          intro v' W8 oV gV _ _
          obtain ⟨va', vc', rfl, _, _⟩ := own_slice oV
          rw [← vb_append, ← HT.out] at oV
          have hb7 := Boxed.below hb2 g7
          have hb8 : Boxed W8 V'.heap.size 49 (.int .u64 (z : Int)) := hb7.kept gV (hb7.not_row (by decide) o7)
          have hK7 : (wr.alloc (.cells #[.int .u8 (y : Nat)] 5)).heap[D]? = some (.deferred (some [])) := row_below hK2 g7
          have hK8 : W8.heap[D]? = some (.deferred (some [])) := (gV.block D (row_lt hK7) (fun e => own_not o7 hK7 rfl e.symm)).trans hK7
          have hB7 := hB2.trans (g7.mono hB2.size)
          have hB8 := hB7.grown gV hB7.size (fun b e => (o7.lt b e).1)
          clear gV o7 g7 hB2 hB7 hb2 hb7 hK2 hK7 oR c1
          go_wp2_with fail
          go_roundw
          case rel => exact ⟨j + 1, va', vc', rfl, by go_num, by omega, oV, hb8, hB8, hK8⟩
          case measure => simp [intOf]; omega
        · obtain rfl : j = 8 := by omega
          try rw [show ((8 : Nat) : Int) = 8 from rfl]
          clear hj8
          go_wp2_with fail
          change LeavesInM Fence.wide 8 Try.prog Try.f13 _ _ [{ target := .collected D, args := #[] }] .returning wr
          refine leaves_marks (B := w.heap.size) [{ target := .collected D, args := #[] }] wr ⟨⟨D, rfl, by omega, hK2⟩, (fun _ h => by cases h), trivial⟩ (fun W' hb hk => ⟨_, results_tmp rfl _ _ _, oa, oc, rfl, ?_, hB2.trans hb⟩)
          have e9 : Tg ws c bs = t8 z 8 := by rw [Hz.out]; rfl
          rw [e9]
          exact ownsRow_cells oR hk
    case stop =>
      rintro D c pre W _ _ h _
      exact h.elim
end Go.Proofs.Ytdeeilahefnicaa
