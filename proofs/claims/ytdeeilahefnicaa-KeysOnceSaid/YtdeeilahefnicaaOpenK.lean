/- Keys: Open, with a ring of one key. -/
import Derived.Test.YtdeeilahefnicaaOnceAll
import Derived.Test.YtdeeilahefnicaaOwnOne
import Derived.Test.YtdeeilahefnicaaSeal
import Derived.Test.YtdeeilahefnicaaEqual
namespace Go.Proofs.Ytdeeilahefnicaa
set_option linter.unusedVariables false
set_option linter.unusedSimpArgs false
open Go.RowKit Go.Shelf

/-- how Open ends: the ring's row with (t, s), the body, the ID, the error -/
def OpenE (B : Nat) (id : Nat) (top : Int) (s : Nat) (ws : List Int) (un : Nat) (body : List Nat) (ok : Bool) (r : Option (Int × Nat)) (W : World) (e : Ending) (w' : World) : Prop :=
  ∃ (g2 c2 gw gc : Nat) (t : Int) (s' : Nat) (oa : Option Addr) (on oc : Nat) (who err : Int) (out : List Nat),
    e = .returned (.tuple #[.agg #[.slice (some ⟨g2, 0, none⟩) 1 c2], .slice oa on oc, .int .i64 who, .int .i64 err]) ∧
    w'.ownsRow B 25 4 (.slice (some ⟨g2, 0, none⟩) 1 c2) 1 [.int .i64 (id : Int), .slice (some ⟨gw, 0, none⟩) 8 gc, .int .i64 t, .int .i64 (s' : Int)] ∧
    w'.ownsRow B 3 1 (.slice (some ⟨gw, 0, none⟩) 8 gc) 8 (vz ws) ∧ w'.ownsRow B 5 1 (.slice oa on oc) on (vb out) ∧ Below B W w' ∧
    (match ok, r with
      | false, _ => err = 14 ∧ on = 0 ∧ out = [] ∧ t = top ∧ s' = s
      | true, none => err = 13 ∧ on = 0 ∧ out = [] ∧ t = top ∧ s' = s
      | true, some (t1, s1) => err = 0 ∧ who = id ∧ on = un - 15 ∧ out = body ∧ t = t1 ∧ s' = s1)

set_option maxRecDepth 100000 in
set_option maxHeartbeats 4000000 in
theorem open_ok (kb kc id : Nat) (top : Int) (s : Nat) (a : Addr) (wc : Nat) (ws : List Int) (h : KeyOk (id : Int) top (s : Int) ws) (W : World) (hK : KCells W kb (id : Int) top (s : Int) (some a) wc) (hW : Rd W (some a) 8 wc (vz ws))
    (ub uo un uc : Nat) (bs : List Nat) (hu : Rd W (some ⟨ub, uo, none⟩) un uc (vb bs)) (hb : AllB bs) (h15 : 15 ≤ un ∧ un ≤ 1015) (c : Nat) (hc : c < 281474976710656) (hid0 : nth bs 0 = id) (hcn : numN ((bs.drop 1).take 6) = c) :
    Calls Try.prog 9 #[.agg #[.slice (some ⟨kb, 0, none⟩) 1 kc], .slice (some ⟨ub, uo, none⟩) un uc] W
      (OpenE W.heap.size id top s ws un (Cv ws c ((bs.drop 7).take (un - 15))) (decide (Tg ws c (bs.take (un - 8)) = bs.drop (un - 8))) (onceF top s c) W) := by
  obtain ⟨i0, hi0, hz0, hz1, hz2⟩ := info_parts Try.info5
  have A1 := heap_alloc_new W (.cells #[.slice (some ⟨kb, 0, none⟩) 1 kc] 33)
  have b1 := below_alloc W (.cells #[.slice (some ⟨kb, 0, none⟩) 1 kc] 33)
  have z1 : (W.alloc (.cells #[.slice (some ⟨kb, 0, none⟩) 1 kc] 33)).heap.size = W.heap.size + 1 := by simp
  have A2 := heap_alloc_new (W.alloc (.cells #[.slice (some ⟨kb, 0, none⟩) 1 kc] 33)) (.cells #[.slice none 0 0] 33)
  have b2 := below_alloc (W.alloc (.cells #[.slice (some ⟨kb, 0, none⟩) 1 kc] 33)) (.cells #[.slice none 0 0] 33)
  rw [z1] at A2
  have A1 := row_below A1 b2
  have hB := b1.trans (b2.mono b1.size)
  clear b1 b2 z1
  go_enter Try.func9, Try.ntmps9
  go_wp2_with fail
  refine (own_one kb kc (id : Int) top (s : Int) a wc ws h _ (hK.below hB) (hW.below hB)).mono ?_
  rintro e V ⟨g2, c2, gw, gc, rfl, oR, oW, bV⟩
  generalize (W.alloc (.cells #[.slice (some ⟨kb, 0, none⟩) 1 kc] 33)).alloc (.cells #[.slice none 0 0] 33) = w2 at *
  have A1 := row_below A1 bV
  have A2 := row_below A2 bV
  have oR := ownsRow_mono oR hB.size
  have oW := ownsRow_mono oW hB.size
  have hB := hB.trans (bV.mono hB.size)
  clear bV
  have c1 : V.cell? ⟨W.heap.size, 0, none⟩ = some (.slice (some ⟨kb, 0, none⟩) 1 kc) := by rw [cell_of_row _ _ _ _ _ _ A1]; rfl
  have f1 := frozen_row A1
  obtain ⟨B1, g1⟩ := set_row (cs' := #[.slice (some ⟨g2, 0, none⟩) 1 c2]) A1 0 (.slice (some ⟨g2, 0, none⟩) 1 c2) rfl
  have B2 := row_grown A2 g1 (by omega)
  have oR := oR.kept g1 (own_ne oR A1 (by decide))
  have oW := oW.kept g1 (own_ne oW A1 (by decide))
  have hB1 := hB.grown g1 hB.size (fun b e => by cases e; exact Nat.le_refl _)
  obtain ⟨V1, hV1⟩ : ∃ V1, V1 = V.setCell ⟨W.heap.size, 0, none⟩ (.slice (some ⟨g2, 0, none⟩) 1 c2) := ⟨_, rfl⟩
  rw [← hV1] at B1 B2 oR oW hB1
  have hV1' := hV1.symm
  clear hV1 A1 A2 g1 hB
  have d1 : V1.cell? ⟨W.heap.size, 0, none⟩ = some (.slice (some ⟨g2, 0, none⟩) 1 c2) := by rw [cell_of_row _ _ _ _ _ _ B1]; rfl
  have t1 : decide ((un : Int) < 15) = false := by simp; omega
  have t2 : decide ((1015 : Int) < (un : Int)) = false := by simp; omega
  go_wp2_with fail
  have hbl : bs.length = un := by have := hu.len; rwa [vb_len] at this
  have hul : ub < W.heap.size := hu.block_lt (by omega) rfl
  have hWV : W.heap.size ≤ V1.heap.size := hB1.size
  have x0 : V1.cell? ⟨ub, uo, none⟩ = some (.int .u8 (id : Int)) := by
    obtain ⟨b', o', ha, _, hcl⟩ := (hu.below hB1).cell 0 (by omega)
    cases ha
    rw [hid0] at hcl; exact hcl
  have kk : KCells V1 g2 (id : Int) top (s : Int) (some ⟨gw, 0, none⟩) gc := ⟨oR.cellAt 0 (by decide), oR.cellAt 1 (by decide), oR.cellAt 2 (by decide), oR.cellAt 3 (by decide)⟩
  have n0 : ∀ w', Below V1.heap.size V1 w' → w'.cell? ⟨W.heap.size, 0, none⟩ = some (.slice (some ⟨g2, 0, none⟩) 1 c2) := fun w' hw => (hw.cell (p := ⟨W.heap.size, 0, none⟩) (row_lt B1)).trans d1
  have n1 : ∀ w', Below V1.heap.size V1 w' → w'.cell? ⟨ub, uo, none⟩ = some (.int .u8 (id : Int)) := fun w' hw => (hw.cell (p := ⟨ub, uo, none⟩) (Nat.lt_of_lt_of_le hul hWV)).trans x0
  have u1 : (0 : Int) < (un : Int) := by omega
  have u2 : 0 < un := by omega
  have hid255 : id ≤ 255 := by have := h.hid; omega
  have e0 : IntKind.i64.wrap (id : Int) = (id : Int) := IntWalk.i64_in _ (by omega)
  have e01 : wrap64 (id : Int) = (id : Int) := by unfold wrap64; omega
  have hcap := hu.le
  have hmx := hu.max
  clear hV1' d1 x0 t1 t2
  refine wp_region_can_all [5] [0, 1, 2, 3, 4, 5, 6] (Below V1.heap.size) (fun _ => Below.refl _ _) (fun _ _ _ h k => h.trans k) (by kernel_rfl) (by kernel_rfl) ?_
  have n0 : ∀ w', Below V1.heap.size V1.drew w' → w'.cell? ⟨W.heap.size, 0, none⟩ = some (.slice (some ⟨g2, 0, none⟩) 1 c2) := fun w' hw => n0 w' ((Below.refl _ V1).drew.trans hw)
  have n1 : ∀ w', Below V1.heap.size V1.drew w' → w'.cell? ⟨ub, uo, none⟩ = some (.int .u8 (id : Int)) := fun w' hw => n1 w' ((Below.refl _ V1).drew.trans hw)
  simp only [List.map_cons, List.map_nil, List.contains_cons, List.contains_nil, List.getD_cons_zero, List.getD_cons_succ, Nat.reduceBEq, Bool.or_false, Bool.or_true]
  repeat (refine wpL_do rfl (fun w' hw' => (by go_simp; rfl)) ?_; simp only [Act.put, List.setIfInBounds_toArray, List.set_cons_succ, List.set_cons_zero])
  clear n0 n1
  have kk := kk.below ((Below.refl _ V1).drew)
  have B1 := row_drew B1
  have B2 := row_drew B2
  have oR : V1.drew.ownsRow _ _ _ _ _ _ := oR.drew
  have oW : V1.drew.ownsRow _ _ _ _ _ _ := oW.drew
  have hBU : Below W.heap.size W V1.drew := hB1.drew
  have hsz : V1.drew.heap.size = V1.heap.size := rfl
  generalize V1.drew = U at *
  refine wpL_call rfl (fun K hK => ?_)
  go_wp2_with fail
  refine (find_one g2 c2 (id : Int) top (s : Int) (some ⟨gw, 0, none⟩) gc U kk).mono ?_
  rintro e U2 ⟨rfl, b2⟩
  refine hK _ _ (by rw [← hsz]; exact b2) ?_
  clear hK K
  try simp only [Act.put, List.setIfInBounds_toArray, List.set_cons_succ, List.set_cons_zero]
  have B1 := row_below B1 b2
  have B2 := row_below B2 b2
  have oR := ownsRow_below oR b2
  have oW := ownsRow_below oW b2
  have hB2 := hBU.trans (b2.mono hBU.size)
  clear b2 hBU hsz kk hB1 hWV
  repeat (refine wpL_do rfl (fun w' hw' => (by go_simp; rfl)) ?_; simp only [Act.put, List.setIfInBounds_toArray, List.set_cons_succ, List.set_cons_zero])
  refine wpL_nil ?_
  have d1 : U2.cell? ⟨W.heap.size, 0, none⟩ = some (.slice (some ⟨g2, 0, none⟩) 1 c2) := by rw [cell_of_row _ _ _ _ _ _ B1]; rfl
  have s1 : (7 : Int) ≤ (uc : Int) := by omega
  have r6 : Rd U2 (some ⟨ub, uo + 1, none⟩) 6 (uc - 1) (vb ((bs.drop 1).take 6)) := by
    have h6 := (hu.below hB2).sub 1 6 (by omega)
    exact h6
  have s3 : ¬ uc = 1 := by omega
  have e2 : IntKind.i64.wrap (c : Int) = (c : Int) := IntWalk.i64_in _ (by omega)
  go_wp2_with fail
  refine (number_ok _ 6 (uc - 1) _ U2 r6 ((hb.drop 1).take 6) (by decide)).mono ?_
  rintro e U3 ⟨rfl, rfl⟩
  rw [hcn]
  go_wp2_with fail
  clear s1 s3 e2 r6 d1 e0 e01
  obtain ⟨m, hm⟩ : ∃ m, m + 8 = un := ⟨un - 8, by omega⟩
  have hm7 : 7 ≤ m := by omega
  have e1 : IntKind.i64.wrap (m : Int) = (m : Int) := IntWalk.i64_in _ (by omega)
  have e2 : (0 : Int) ≤ (m : Int) := by omega
  have e5 : (m : Int).toNat = m := by omega
  have e3 : (un : Int) - 8 = (m : Int) := by omega
  have e4 : un - m = 8 := by omega
  have q1 : (m : Int) ≤ (un : Int) := by omega
  have q2 : (m : Int) ≤ (uc : Int) := by omega
  have q3 : (un : Int) ≤ (uc : Int) := by omega
  have q4 : ¬ uc = m := by omega
  have hm8 : un - 8 = m := by omega
  have hm15 : un - 15 = m - 7 := by omega
  have hm1000 : m ≤ 1007 := by omega
  have rP : Rd U2 (some ⟨ub, uo, none⟩) m uc (vb (bs.take m)) := by
    have h6 := (hu.below hB2).sub 0 m (by omega)
    simpa using h6
  have rT : Rd U2 (some ⟨ub, uo + m, none⟩) 8 (uc - m) (vb (bs.drop m)) := by
    have h6 := (hu.below hB2).sub m 8 (by omega)
    rwa [List.take_of_length_le (by rw [List.length_drop]; omega)] at h6
  have hgl : g2 < U2.heap.size := (oR.lt g2 rfl).2
  have hg1 : U2.cell? ⟨g2, 1, none⟩ = some (.slice (some ⟨gw, 0, none⟩) 8 gc) := oR.cellAt 1 (by decide)
  have HM := hid hm
  have Hbl := hid hbl
  have HM8 := hid hm8
  have HM15 := hid hm15
  clear hm hbl hm8 hm15
  refine wp_region_can_all [9, 14] [0, 1, 2, 3, 4, 5, 6, 7, 8, 10, 11, 12, 13, 9, 14, 15, 16] (Below U2.heap.size) (fun _ => Below.refl _ _) (fun _ _ _ h k => h.trans k) (by kernel_rfl) (by kernel_rfl) ?_
  have n0 : ∀ w', Below U2.heap.size U2.drew w' → w'.cell? ⟨g2, 1, none⟩ = some (.slice (some ⟨gw, 0, none⟩) 8 gc) := fun w' hw => (hw.cell (p := ⟨g2, 1, none⟩) hgl).trans hg1
  simp only [List.map_cons, List.map_nil, List.contains_cons, List.contains_nil, List.getD_cons_zero, List.getD_cons_succ, Nat.reduceBEq, Bool.or_false, Bool.or_true]
  repeat (refine wpL_do rfl (fun w' hw' => (by go_simp; rfl)) ?_; simp only [Act.put, List.setIfInBounds_toArray, List.set_cons_succ, List.set_cons_zero])
  clear n0 hg1
  have rP := rP.below ((Below.refl _ U2).drew)
  have rT := rT.below ((Below.refl _ U2).drew)
  have B1 := row_drew B1
  have B2 := row_drew B2
  have oR : U2.drew.ownsRow _ _ _ _ _ _ := oR.drew
  have oW : U2.drew.ownsRow _ _ _ _ _ _ := oW.drew
  have hB3 : Below W.heap.size W U2.drew := hB2.drew
  have hsz : U2.drew.heap.size = U2.heap.size := rfl
  have Hsz := hid hsz
  clear hsz
  generalize U2.drew = U at *
  refine wpL_call rfl (fun K hK => ?_)
  go_wp2_with fail
  refine (tag_ok (some ⟨gw, 0, none⟩) gc ws c ub uo m uc (bs.take m) U (Rd.ofOwn oW) h.words hc rP (hb.take m) (by omega)).mono ?_
  rintro e U3 ⟨ta, tc, rfl, oT, b3⟩
  refine hK _ _ (by rw [← Hsz.out]; exact b3) ?_
  clear hK K
  try simp only [Act.put, List.setIfInBounds_toArray, List.set_cons_succ, List.set_cons_zero]
  have hszU : U.heap.size ≤ U3.heap.size := b3.size
  have B1 := row_below B1 b3
  have B2 := row_below B2 b3
  have oR := ownsRow_below oR b3
  have oW := ownsRow_below oW b3
  have rT := rT.below b3
  have hB3 := hB3.trans (b3.mono hB3.size)
  have rG := Rd.ofOwn oT
  clear b3 rP oT
  repeat (refine wpL_do rfl (fun w' hw' => (by go_simp; rfl)) ?_; simp only [Act.put, List.setIfInBounds_toArray, List.set_cons_succ, List.set_cons_zero])
  refine wpL_call rfl (fun K hK => ?_)
  go_wp2_with fail
  refine (equal_ok ta _ 8 8 tc _ (Tg ws c (bs.take m)) (bs.drop m) U3 rG rT (by decide)).mono ?_
  rintro e U4 ⟨rfl, b4⟩
  refine hK _ _ (b4.mono (by have := Hsz.out; omega)) ?_
  clear hK K
  try simp only [Act.put, List.setIfInBounds_toArray, List.set_cons_succ, List.set_cons_zero]
  obtain ⟨dd, hdd⟩ : ∃ dd, dd = decide (Tg ws c (bs.take m) = bs.drop m) := ⟨_, rfl⟩
  have HDD : Hid (decide (Tg ws c (bs.take (un - 8)) = bs.drop (un - 8)) = dd) := by show _ = _; rw [HM8.out, hdd]
  rw [← hdd]
  have B1 := row_below B1 b4
  have B2 := row_below B2 b4
  have oR := ownsRow_below oR b4
  have oW := ownsRow_below oW b4
  have hB4 := hB3.trans (b4.mono hB3.size)
  have d1 : U4.cell? ⟨W.heap.size, 0, none⟩ = some (.slice (some ⟨g2, 0, none⟩) 1 c2) := by rw [cell_of_row _ _ _ _ _ _ B1]; rfl
  have d2 : U4.cell? ⟨W.heap.size + 1, 0, none⟩ = some (.slice none 0 0) := by rw [cell_of_row _ _ _ _ _ _ B2]; rfl
  have f2 := frozen_row B2
  clear b4 hB3 rG rT hszU Hsz hdd hgl
  have fin : ∀ (V : World) (top' : Int) (s' : Nat), V.heap[W.heap.size + 1]? = some (.cells #[.slice none 0 0] 33) → V.ownsRow W.heap.size 25 4 (.slice (some ⟨g2, 0, none⟩) 1 c2) 1 [.int .i64 (id : Int), .slice (some ⟨gw, 0, none⟩) 8 gc, .int .i64 top', .int .i64 (s' : Int)] → V.ownsRow W.heap.size 3 1 (.slice (some ⟨gw, 0, none⟩) 8 gc) 8 (vz ws) → Below W.heap.size W V →
      ∃ V', V' = V.setCell ⟨W.heap.size + 1, 0, none⟩ (.slice (some ⟨g2, 0, none⟩) 1 c2) ∧ V'.cell? ⟨W.heap.size + 1, 0, none⟩ = some (.slice (some ⟨g2, 0, none⟩) 1 c2) ∧ V'.ownsRow W.heap.size 25 4 (.slice (some ⟨g2, 0, none⟩) 1 c2) 1 [.int .i64 (id : Int), .slice (some ⟨gw, 0, none⟩) 8 gc, .int .i64 top', .int .i64 (s' : Int)] ∧ V'.ownsRow W.heap.size 3 1 (.slice (some ⟨gw, 0, none⟩) 8 gc) 8 (vz ws) ∧ Below W.heap.size W V' ∧ V.grownBy V' (some (W.heap.size + 1)) := by
    intro V top' s' A oR oW hB
    obtain ⟨E2, g9⟩ := set_row (cs' := #[.slice (some ⟨g2, 0, none⟩) 1 c2]) A 0 (.slice (some ⟨g2, 0, none⟩) 1 c2) rfl
    exact ⟨_, rfl, by rw [cell_of_row _ _ _ _ _ _ E2]; rfl, oR.kept g9 (own_ne oR A (by decide)), oW.kept g9 (own_ne oW A (by decide)), hB.grown g9 hB.size (fun b e => by cases e; omega), g9⟩
  have FIN := hid fin
  clear fin
  cases dd with
  | false =>
    obtain ⟨V', hV', y0, oR', oW', hB', _⟩ := FIN.out U4 top s B2 oR oW hB4
    have hV'' := hV'.symm
    clear hV' oR oW hB4 B1 B2 FIN
    repeat (refine wpL_do rfl (fun w' hw' => (by go_simp; rfl)) ?_; simp only [Act.put, List.setIfInBounds_toArray, List.set_cons_succ, List.set_cons_zero])
    refine wpL_nil ?_
    go_wp2_with fail
    refine bodyPost_ret (by simp only [results, Try.results9, go_sem]; simp [go_sem, y0]; rfl) rfl ?_
    exact ⟨g2, c2, gw, gc, top, s, none, 0, 0, 0, 14, [], rfl, oR', oW', World.ownsRow_nil _ _ _ _, hB', by rw [HDD.out]; exact ⟨rfl, rfl, rfl, rfl, rfl⟩⟩
  | true =>
    repeat (refine wpL_do rfl (fun w' hw' => (by go_simp; rfl)) ?_; simp only [Act.put, List.setIfInBounds_toArray, List.set_cons_succ, List.set_cons_zero])
    refine wpL_nil ?_
    have ho := once_any W.heap.size g2 c2 (.int .i64 (id : Int)) (.slice (some ⟨gw, 0, none⟩) 8 gc) top s c U4 h.htop (by have := h.hseen; omega) hc oR
    obtain ⟨r, hr⟩ : ∃ r, r = onceF top s c := ⟨_, rfl⟩
    rw [← hr] at ho
    have HR : Hid (onceF top s c = r) := hr.symm
    clear hr
    go_wp2_with fail
    refine ho.mono ?_
    clear ho
    cases r with
    | none =>
      rintro e w' ⟨rfl, rfl⟩
      obtain ⟨V', hV', y0, oR', oW', hB', _⟩ := FIN.out w' top s B2 oR oW hB4
      have hV'' := hV'.symm
      clear hV' oR oW hB4 B1 B2 FIN
      go_wp2_with fail
      refine bodyPost_ret (by simp only [results, Try.results9, go_sem]; simp [go_sem, y0]; rfl) rfl ?_
      exact ⟨g2, c2, gw, gc, top, s, none, 0, 0, 0, 13, [], rfl, oR', oW', World.ownsRow_nil _ _ _ _, hB', by rw [HDD.out, HR.out]; exact ⟨rfl, rfl, rfl, rfl, rfl⟩⟩
    | some ts =>
      obtain ⟨t1, s1⟩ := ts
      rintro e U5 ⟨rfl, oR5, g5⟩
      have B1 := row_kept B1 oR g5 (by decide)
      have B2 := row_kept B2 oR g5 (by decide)
      have oW := oW.kept g5 (own_apart oW oR (by decide))
      have hB5 := hB4.grown g5 hB4.size (fun k e => by cases e; exact (oR.lt g2 rfl).1)
      clear oR hB4 g5 d1 d2 f2
      have hgl : g2 < U5.heap.size := (oR5.lt g2 rfl).2
      have hg0 : U5.cell? ⟨g2, 0, none⟩ = some (.int .i64 (id : Int)) := oR5.cellAt 0 (by decide)
      have hg1 : U5.cell? ⟨g2, 1, none⟩ = some (.slice (some ⟨gw, 0, none⟩) 8 gc) := oR5.cellAt 1 (by decide)
      have d1 : U5.cell? ⟨W.heap.size, 0, none⟩ = some (.slice (some ⟨g2, 0, none⟩) 1 c2) := by rw [cell_of_row _ _ _ _ _ _ B1]; rfl
      have q5 : (7 : Int) ≤ (m : Int) := by omega
      have q6 : ¬ uc = 7 := by omega
      go_wp2_with fail
      have hge : g2 ≠ W.heap.size + 1 := fun e => by
        rcases own_ne oR5 B2 (by decide) with h | h
        · cases h
        · exact h (by rw [e]; rfl)
      have n0 : ∀ w', U5.grownBy w' (some (W.heap.size + 1)) → w'.cell? ⟨W.heap.size, 0, none⟩ = some (.slice (some ⟨g2, 0, none⟩) 1 c2) := fun w' hg => by rw [cell_of_row _ _ _ _ _ _ (row_grown B1 hg (by omega))]; rfl
      have n1 : ∀ w', U5.grownBy w' (some (W.heap.size + 1)) → w'.cell? ⟨g2, 0, none⟩ = some (.int .i64 (id : Int)) := fun w' hg => (World.cell?_of_block (w := U5) (a := ⟨g2, 0, none⟩) (hg.block g2 hgl (sne hge))).trans hg0
      have n2 : ∀ w', U5.grownBy w' (some (W.heap.size + 1)) → w'.cell? ⟨g2, 1, none⟩ = some (.slice (some ⟨gw, 0, none⟩) 8 gc) := fun w' hg => (World.cell?_of_block (w := U5) (a := ⟨g2, 1, none⟩) (hg.block g2 hgl (sne hge))).trans hg1
      clear hg0 hg1 d1
      refine wp_region_can_all [10, 15] [0, 1, 2, 3, 4, 5, 6, 7, 8, 9, 11, 12, 13, 14, 10, 15, 16, 17, 18] (fun u u' => u.grownBy u' (some (W.heap.size + 1))) (fun _ => ⟨rfl, rfl, rfl, Nat.le_refl _, fun _ _ _ => rfl⟩) (fun _ _ _ h k => grownBy_trans h k) (by kernel_rfl) (by kernel_rfl) ?_
      have n0 : ∀ w', U5.drew.grownBy w' (some (W.heap.size + 1)) → w'.cell? ⟨W.heap.size, 0, none⟩ = some (.slice (some ⟨g2, 0, none⟩) 1 c2) := fun w' hg => n0 w' (grownBy_trans (grownBy_drew U5 _) hg)
      have n1 : ∀ w', U5.drew.grownBy w' (some (W.heap.size + 1)) → w'.cell? ⟨g2, 0, none⟩ = some (.int .i64 (id : Int)) := fun w' hg => n1 w' (grownBy_trans (grownBy_drew U5 _) hg)
      have n2 : ∀ w', U5.drew.grownBy w' (some (W.heap.size + 1)) → w'.cell? ⟨g2, 1, none⟩ = some (.slice (some ⟨gw, 0, none⟩) 8 gc) := fun w' hg => n2 w' (grownBy_trans (grownBy_drew U5 _) hg)
      simp only [List.map_cons, List.map_nil, List.contains_cons, List.contains_nil, List.getD_cons_zero, List.getD_cons_succ, Nat.reduceBEq, Bool.or_false, Bool.or_true]
      repeat (refine wpL_do rfl (fun w' hw' => (by go_simp; rfl)) ?_; simp only [Act.put, List.setIfInBounds_toArray, List.set_cons_succ, List.set_cons_zero])
      clear n0 n1 n2
      have B2 := row_drew B2
      have oR : U5.drew.ownsRow _ _ _ _ _ _ := oR5.drew
      have oW : U5.drew.ownsRow _ _ _ _ _ _ := oW.drew
      have hB5 : Below W.heap.size W U5.drew := hB5.drew
      clear oR5 B1 hgl
      generalize U5.drew = U6 at *
      have rB : Rd U6 (some ⟨ub, uo + 7, none⟩) (m - 7) (uc - 7) (vb ((bs.drop 7).take (m - 7))) := (hu.below hB5).sub 7 (m - 7) (by have := HM.out; omega)
      refine wpL_call rfl (fun K hK => ?_)
      go_wp2_with fail
      refine (cover_ok (some ⟨gw, 0, none⟩) gc ws c (some ⟨ub, uo + 7, none⟩) ub (uo + 7) (m - 7) (uc - 7) ((bs.drop 7).take (m - 7)) U6 (Rd.ofOwn oW) h.words hc (fun _ => rfl) rB ((hb.drop 7).take _) (by omega)).mono ?_
      rintro e U7 ⟨oa, oc, rfl, oC, b7⟩
      refine hK _ _ (grownBy_of_below b7 _) ?_
      clear hK K
      try simp only [Act.put, List.setIfInBounds_toArray, List.set_cons_succ, List.set_cons_zero]
      have B2 := row_below B2 b7
      have oR := ownsRow_below oR b7
      have oW := ownsRow_below oW b7
      have oC := ownsRow_mono oC hB5.size
      have hB7 := hB5.trans (b7.mono hB5.size)
      clear b7 rB hB5
      have d2 : U7.cell? ⟨W.heap.size + 1, 0, none⟩ = some (.slice none 0 0) := by rw [cell_of_row _ _ _ _ _ _ B2]; rfl
      have f2 := frozen_row B2
      obtain ⟨V', hV', y0, oR', oW', hB', g9⟩ := FIN.out U7 t1 s1 B2 oR oW hB7
      have oC := oC.kept g9 (own_ne oC B2 (by decide))
      have hV'' := hV'.symm
      clear hV' oR oW hB7 B2 FIN
      refine wpL_call rfl (fun K hK => ?_)
      go_wp2_with fail
      refine hK _ _ g9 ?_
      clear hK K g9
      try simp only [Act.put, List.setIfInBounds_toArray, List.set_cons_succ, List.set_cons_zero]
      repeat (refine wpL_do rfl (fun w' hw' => (by go_simp; rfl)) ?_; simp only [Act.put, List.setIfInBounds_toArray, List.set_cons_succ, List.set_cons_zero])
      refine wpL_nil ?_
      go_wp2_with fail
      refine bodyPost_ret (by simp only [results, Try.results9, go_sem]; simp [go_sem, y0]; rfl) rfl ?_
      exact ⟨g2, c2, gw, gc, t1, s1, oa, m - 7, oc, (id : Int), 0, _, rfl, oR', oW', oC, hB', by rw [HDD.out, HR.out, HM15.out]; exact ⟨rfl, rfl, rfl, rfl, rfl, rfl⟩⟩
end Go.Proofs.Ytdeeilahefnicaa
