/- command.Decode of what Encode made: the walk. -/
import Derived.Test.YtkngoomkmbkenaaEncode
import Derived.Test.YtkngoomkmbkenaaRegionT
import Derived.Test.YtkngoomkmbkenaaClone
import Derived.StillTailTactics
namespace Go.Proofs.Ytkngoomkmbkenaa
set_option linter.unusedVariables false
open Go.RowKit

theorem or_low (a b : Nat) (hb : b < 256) : a * 256 ||| b = a * 256 + b := by
  have h := Nat.two_pow_add_eq_or_of_lt (i := 8) (b := b) hb a
  rw [Nat.mul_comm a 256]
  exact h.symm
theorem or_word (a b f : Nat) (hb : b < 256) (hf : a * 256 + b = f) (hs : f < 65536) : bits .or .i64 ((a : Int) * 256) (b : Int) = (f : Int) := by
  have h := i64_or_nat (a * 256) b (by omega) (by omega)
  rw [or_low a b hb, hf, Int.natCast_mul] at h
  exact h

theorem encO_len (cr : Nat) (by_ co : Bool) (sq : Nat) (ds : List Nat) : (encO cr by_ co sq ds).length = ds.length + 7 := by
  unfold encO
  rw [List.length_append, bodyO_len]; simp; omega
theorem encO_take (cr : Nat) (by_ co : Bool) (sq : Nat) (ds : List Nat) : (encO cr by_ co sq ds).take (ds.length + 5) = bodyO cr by_ co sq ds := by
  unfold encO
  rw [List.take_append_of_le_length (by rw [bodyO_len]; omega), List.take_of_length_le (by rw [bodyO_len]; omega)]
theorem encO_mid (cr : Nat) (by_ co : Bool) (sq : Nat) (ds : List Nat) : ((encO cr by_ co sq ds).drop 5).take ds.length = ds := by
  unfold encO bodyO headO
  simp
theorem encO_s0 (cr : Nat) (by_ co : Bool) (sq : Nat) (ds : List Nat) : nth (encO cr by_ co sq ds) (ds.length + 5) = sumN (bodyO cr by_ co sq ds) / 256 := by
  unfold encO nth
  rw [List.getD_eq_getElem?_getD, List.getElem?_append_right (by rw [bodyO_len]; omega), bodyO_len, show ds.length + 5 - (5 + ds.length) = 0 by omega]
  rfl
theorem encO_s1 (cr : Nat) (by_ co : Bool) (sq : Nat) (ds : List Nat) : nth (encO cr by_ co sq ds) (ds.length + 6) = sumN (bodyO cr by_ co sq ds) % 256 := by
  unfold encO nth
  rw [List.getD_eq_getElem?_getD, List.getElem?_append_right (by rw [bodyO_len]; omega), bodyO_len, show ds.length + 6 - (5 + ds.length) = 1 by omega]
  rfl
theorem encO_head (cr : Nat) (by_ co : Bool) (sq : Nat) (ds : List Nat) (k : Nat) (hk : k < 5) : nth (encO cr by_ co sq ds) k = nth (headO cr by_ co sq ds.length) k := by
  unfold encO bodyO nth
  rw [List.getD_eq_getElem?_getD, List.getD_eq_getElem?_getD, List.getElem?_append_left (by simp [headO]; omega), List.getElem?_append_left (by simp [headO]; omega)]

theorem first_bits : ∀ cr, cr < 1024 → ∀ by_ co : Bool, firstO cr by_ co &&& 1023 = cr ∧ ((firstO cr by_ co &&& 8192) != 0) = by_ ∧ ((firstO cr by_ co &&& 4096) != 0) = co ∧ firstO cr by_ co &&& 52224 = 0 := by decide +kernel
theorem cast_ne (x : Nat) : (((x : Nat) : Int) != 0) = (x != 0) := by cases x <;> simp; omega
theorem below_alloc2 {B0 : Nat} (u : World) (o o' : Obj) (h : B0 ≤ u.heap.size) : Below B0 (u.alloc o) (u.alloc o') :=
  ⟨rfl, rfl, rfl, by simp, fun k hk => by
    have h1 := (below_alloc u o).block k (by omega)
    have h2 := (below_alloc u o').block k (by omega)
    rw [h1, h2]⟩

/-- five cells are written over, one by one -/
theorem five {W : World} {b : Nat} {e : TypeId} {o0 o1 o2 o3 o4 : Value} (A : W.heap[b]? = some (.cells #[o0, o1, o2, o3, o4] e)) (v0 v1 v2 v3 v4 : Value) :
    (((((W.setCell ⟨b, 0, none⟩ v0).setCell ⟨b, 1, none⟩ v1).setCell ⟨b, 2, none⟩ v2).setCell ⟨b, 3, none⟩ v3).setCell ⟨b, 4, none⟩ v4).heap[b]? = some (.cells #[v0, v1, v2, v3, v4] e) ∧ W.grownBy (((((W.setCell ⟨b, 0, none⟩ v0).setCell ⟨b, 1, none⟩ v1).setCell ⟨b, 2, none⟩ v2).setCell ⟨b, 3, none⟩ v3).setCell ⟨b, 4, none⟩ v4) (some b) := by
  have h0 : (W.setCell ⟨b, 0, none⟩ v0).heap[b]? = some (.cells #[v0, o1, o2, o3, o4] e) := heap_setCell_same W b 0 _ e v0 A
  have h1 : ((W.setCell ⟨b, 0, none⟩ v0).setCell ⟨b, 1, none⟩ v1).heap[b]? = some (.cells #[v0, v1, o2, o3, o4] e) := heap_setCell_same (W.setCell ⟨b, 0, none⟩ v0) b 1 _ e v1 h0
  have h2 : (((W.setCell ⟨b, 0, none⟩ v0).setCell ⟨b, 1, none⟩ v1).setCell ⟨b, 2, none⟩ v2).heap[b]? = some (.cells #[v0, v1, v2, o3, o4] e) := heap_setCell_same ((W.setCell ⟨b, 0, none⟩ v0).setCell ⟨b, 1, none⟩ v1) b 2 _ e v2 h1
  have h3 : ((((W.setCell ⟨b, 0, none⟩ v0).setCell ⟨b, 1, none⟩ v1).setCell ⟨b, 2, none⟩ v2).setCell ⟨b, 3, none⟩ v3).heap[b]? = some (.cells #[v0, v1, v2, v3, o4] e) := heap_setCell_same (((W.setCell ⟨b, 0, none⟩ v0).setCell ⟨b, 1, none⟩ v1).setCell ⟨b, 2, none⟩ v2) b 3 _ e v3 h2
  have h4 : (((((W.setCell ⟨b, 0, none⟩ v0).setCell ⟨b, 1, none⟩ v1).setCell ⟨b, 2, none⟩ v2).setCell ⟨b, 3, none⟩ v3).setCell ⟨b, 4, none⟩ v4).heap[b]? = some (.cells #[v0, v1, v2, v3, v4] e) := heap_setCell_same ((((W.setCell ⟨b, 0, none⟩ v0).setCell ⟨b, 1, none⟩ v1).setCell ⟨b, 2, none⟩ v2).setCell ⟨b, 3, none⟩ v3) b 4 _ e v4 h3
  have g0 := grown1 W b 0 v0
  have g1 := grownBy_trans g0 (grown1 _ b 1 v1)
  have g2 := grownBy_trans g1 (grown1 _ b 2 v2)
  have g3 := grownBy_trans g2 (grown1 _ b 3 v3)
  have g4 := grownBy_trans g3 (grown1 _ b 4 v4)
  exact ⟨h4, g4⟩

theorem sum_st (a : Option Addr) (n c : Nat) (bs : List Nat) (hb : AllB bs) (hn : n ≤ 140737488355328) (w : World) (hr : Rd w a n c (vb bs)) :
    Calls Try.prog 21 #[.slice a n c] w fun e w' => e = .returned (.int .i64 ((sumN bs : Nat) : Int)) ∧ w' = w :=
  (sum_ok a n c bs hb hn w hr).mono fun e w' ⟨s, he, _, hs, hw⟩ => ⟨by rw [he, hs.out], hw.symm⟩

set_option maxHeartbeats 4000000 in
theorem decode_enc (cr : Nat) (by_ co : Bool) (sq : Nat) (ds : List Nat) (a : Option Addr) (n c : Nat) (w : World) (hn : ds.length = n) (hr : Rd w a (n + 7) c (vb (encO cr by_ co sq ds))) (hd : AllB ds) (h1 : cr ≤ 1023) (h2 : sq ≤ 255) (h3 : co = true → by_ = true) (h4 : 1 ≤ n) (h5 : n ≤ 1017) :
    Calls Try.prog 9 #[.slice a (n + 7) c] w fun e w' => ∃ ao cc, e = .returned (.tuple #[.agg (ocells cr by_ co sq ao n cc), .int .i64 0]) ∧ Rd w' ao n cc (vb ds) ∧ Below w.heap.size w w' := by
  have hf := firstO_lt cr by_ co h1
  have hall := bodyO_all cr by_ co sq ds h1 h2 hd (by rw [hn]; exact h5)
  have hss := sumN_lt _ hall
  obtain ⟨rb, ro, rfl, hrl, e0⟩ := hr.cell 0 (by omega)
  have ek : ∀ k, k < n + 7 → w.cell? ⟨rb, ro + k, none⟩ = some (.int .u8 (nth (encO cr by_ co sq ds) k : Nat)) := fun k hk => by
    obtain ⟨b', o', hb', _, hc⟩ := hr.cell k hk
    cases hb'; exact hc
  have e1 := ek 1 (by omega)
  have e2 := ek 2 (by omega)
  have e3 := ek 3 (by omega)
  have e4 := ek 4 (by omega)
  have e5 := ek (n + 5) (by omega)
  have e6 := ek (n + 6) (by omega)
  rw [encO_head _ _ _ _ _ _ (by decide)] at e0 e1 e2 e3 e4
  rw [← hn, encO_s0] at e5
  rw [← hn, encO_s1] at e6
  rw [hn] at e0 e1 e2 e3 e4 e5 e6
  have e0 : w.cell? ⟨rb, ro, none⟩ = some (.int .u8 (firstO cr by_ co / 256 : Nat)) := e0
  have e1 : w.cell? ⟨rb, ro + 1, none⟩ = some (.int .u8 (firstO cr by_ co % 256 : Nat)) := e1
  have e2 : w.cell? ⟨rb, ro + 2, none⟩ = some (.int .u8 ((n + 6) / 256 : Nat)) := e2
  have e3 : w.cell? ⟨rb, ro + 3, none⟩ = some (.int .u8 ((n + 6) % 256 : Nat)) := e3
  have e4 : w.cell? ⟨rb, ro + 4, none⟩ = some (.int .u8 (sq : Nat)) := e4
  have p1 : bits .or .i64 (((firstO cr by_ co / 256 : Nat) : Int) * 256) ((firstO cr by_ co % 256 : Nat) : Int) = (firstO cr by_ co : Int) := or_word _ _ _ (by omega) (by omega) (by omega)
  have p2 : bits .or .i64 ((((n + 6) / 256 : Nat) : Int) * 256) (((n + 6) % 256 : Nat) : Int) = ((n + 6 : Nat) : Int) := or_word _ _ _ (by omega) (by omega) (by omega)
  have p3 : bits .and .i64 ((n + 6 : Nat) : Int) 1023 = ((n + 6 : Nat) : Int) := by
    have := and_mask ((n + 6 : Nat) : Int) 10 (by decide)
    rw [show ((2 ^ 10 - 1 : Nat) : Int) = 1023 by decide] at this
    rw [this]; omega
  clear ek
  have hfb0 : firstO cr by_ co / 256 < 256 := by omega
  have hfb1 : firstO cr by_ co % 256 < 256 := by omega
  have hlb0 : (n + 6) / 256 < 256 := by omega
  have hlb1 : (n + 6) % 256 < 256 := by omega
  have hF : Hid (firstO cr by_ co = firstO cr by_ co) := rfl
  generalize hb0 : firstO cr by_ co / 256 = b0 at *
  generalize hb1 : firstO cr by_ co % 256 = b1 at *
  generalize hb2 : (n + 6) / 256 = b2 at *
  generalize hb3 : (n + 6) % 256 = b3 at *
  clear hb0 hb1 hb2 hb3
  go_enter Try.func9, Try.ntmps9
  go_wp2_with fail
  have A := heap_alloc_new w (.cells #[.int .i64 0, .bool false, .bool false, .int .i64 0, .slice none 0 0] 33)
  have BA := below_alloc w (.cells #[.int .i64 0, .bool false, .bool false, .int .i64 0, .slice none 0 0] 33)
  generalize w.alloc (.cells #[.int .i64 0, .bool false, .bool false, .int .i64 0, .slice none 0 0] 33) = V at *
  have e0 := (BA.cell (p := ⟨rb, ro, none⟩) hrl).trans e0
  have e1 := (BA.cell (p := ⟨rb, ro + 1, none⟩) hrl).trans e1
  have e2 := (BA.cell (p := ⟨rb, ro + 2, none⟩) hrl).trans e2
  have e3 := (BA.cell (p := ⟨rb, ro + 3, none⟩) hrl).trans e3
  have e4 := (BA.cell (p := ⟨rb, ro + 4, none⟩) hrl).trans e4
  have e5 := (BA.cell (p := ⟨rb, ro + (n + 5), none⟩) hrl).trans e5
  have e6 := (BA.cell (p := ⟨rb, ro + (n + 6), none⟩) hrl).trans e6
  have hrV := hr.below BA
  refine (in_yes _ _ _ _ (by omega)).mono ?_
  rintro e w' ⟨rfl, rfl⟩
  go_wp2_with fail
  have t0 : (0 : Int) < (n : Int) + 7 := by omega
  have t1 : (1 : Int) < (n : Int) + 7 := by omega
  have t2 : (2 : Int) < (n : Int) + 7 := by omega
  have t3 : (3 : Int) < (n : Int) + 7 := by omega
  refine wp_region_still_lit (by kernel_rfl) (by kernel_rfl) ?_
  have d0 : V.drew.cell? ⟨rb, ro, none⟩ = some (.int .u8 (b0 : Nat)) := e0
  have d1 : V.drew.cell? ⟨rb, ro + 1, none⟩ = some (.int .u8 (b1 : Nat)) := e1
  have d2 : V.drew.cell? ⟨rb, ro + 2, none⟩ = some (.int .u8 (b2 : Nat)) := e2
  have d3 : V.drew.cell? ⟨rb, ro + 3, none⟩ = some (.int .u8 (b3 : Nat)) := e3
  have d4 : V.drew.cell? ⟨rb, ro + 4, none⟩ = some (.int .u8 (sq : Nat)) := e4
  have d5 : V.drew.cell? ⟨rb, ro + (n + 5), none⟩ = some (.int .u8 ((sumN (bodyO cr by_ co sq ds) / 256 : Nat) : Int)) := e5
  have d6 : V.drew.cell? ⟨rb, ro + (n + 6), none⟩ = some (.int .u8 ((sumN (bodyO cr by_ co sq ds) % 256 : Nat) : Int)) := e6
  have Ad : V.drew.heap[w.heap.size]? = _ := A
  have Bd := BA.drew
  have hrd := hrV.below ((Below.refl _ V).drew)
  clear e0 e1 e2 e3 e4 e5 e6 A BA hrV hr hrl
  obtain ⟨Vd, hVd⟩ : ∃ Vd : World, Vd = { V with drawn := V.drawn + 1 } := ⟨_, rfl⟩
  rw [← hVd]
  have eW : V.drew = Vd := hVd.symm
  rw [eW] at d0 d1 d2 d3 d4 d5 d6 Ad Bd hrd
  clear hVd eW
  repeat still_step
  refine wpStill_nil ?_
  change Exit.then _ _ Exit.normal _ Vd
  clear t0 t1 t2 t3 d0 d1 d2 d3
  rw [show ((n + 6 : Nat) : Int) = (n : Int) + 6 by omega] at p2 p3
  have y1 : bits .or .i64 (IntKind.i64.wrap (IntKind.i64.wrap (b0 : Int) * 256)) (IntKind.i64.wrap (b1 : Int)) = (firstO cr by_ co : Int) := by
    rw [IntWalk.i64_in (b0 : Int) (by omega), IntWalk.i64_in (b1 : Int) (by omega), IntWalk.i64_in ((b0 : Int) * 256) (by omega)]; exact p1
  have y2 : bits .or .i64 (IntKind.i64.wrap (IntKind.i64.wrap (b2 : Int) * 256)) (IntKind.i64.wrap (b3 : Int)) = (n : Int) + 6 := by
    rw [IntWalk.i64_in (b2 : Int) (by omega), IntWalk.i64_in (b3 : Int) (by omega), IntWalk.i64_in ((b2 : Int) * 256) (by omega)]; exact p2
  rw [y1, y2]
  clear y1 y2 p1 p2
  have p5 : (n : Int) + 7 - 1 = (n : Int) + 6 := by omega
  go_wp2_with fail
  clear p5
  have hle := hrd.le
  have hmx := hrd.max
  unfold maxLen at hmx
  have hbody := hrd.take (n + 5) (by omega)
  rw [vb_take, show (encO cr by_ co sq ds).take (n + 5) = bodyO cr by_ co sq ds by rw [← hn]; exact encO_take _ _ _ _ _] at hbody
  have s1 : IntKind.i64.wrap ((n : Int) + 7 - 2) = (n : Int) + 5 := by rw [show (n : Int) + 7 - 2 = (n : Int) + 5 by omega]; exact IntWalk.i64_in _ (by omega)
  have s6 : IntKind.i64.wrap ((n : Int) + 7 - 1) = (n : Int) + 6 := by rw [show (n : Int) + 7 - 1 = (n : Int) + 6 by omega]; exact IntWalk.i64_in _ (by omega)
  have s2 : (0 : Int) ≤ (n : Int) + 5 := by omega
  have s3 : (n : Int) + 5 ≤ (c : Int) := by omega
  have s4 : ((n : Int) + 5).toNat = n + 5 := by omega
  have s5 : (n : Int) + 5 < (n : Int) + 7 := by omega
  have s7 : (0 : Int) ≤ (n : Int) + 6 := by omega
  have s8 : (n : Int) + 6 < (n : Int) + 7 := by omega
  have s9 : ((n : Int) + 6).toNat = n + 6 := by omega
  refine wp_region_still_lit (by kernel_rfl) (by kernel_rfl) ?_
  have d4 : Vd.drew.cell? ⟨rb, ro + 4, none⟩ = _ := d4
  have d5 : Vd.drew.cell? ⟨rb, ro + (n + 5), none⟩ = _ := d5
  have d6 : Vd.drew.cell? ⟨rb, ro + (n + 6), none⟩ = _ := d6
  have Ad : Vd.drew.heap[w.heap.size]? = _ := Ad
  have Bd := Bd.drew
  have hrd := hrd.below ((Below.refl _ Vd).drew)
  have hbody := hbody.below ((Below.refl _ Vd).drew)
  obtain ⟨Ve, hVe⟩ : ∃ Ve : World, Ve = { Vd with drawn := Vd.drawn + 1 } := ⟨_, rfl⟩
  rw [← hVe]
  have eW : Vd.drew = Ve := hVe.symm
  rw [eW] at d4 d5 d6 Ad Bd hrd hbody
  clear hVe eW
  obtain ⟨u0, hu0⟩ : ∃ u0, u0 = sumN (bodyO cr by_ co sq ds) / 256 := ⟨_, rfl⟩
  obtain ⟨u1, hu1⟩ : ∃ u1, u1 = sumN (bodyO cr by_ co sq ds) % 256 := ⟨_, rfl⟩
  rw [← hu0] at d5
  rw [← hu1] at d6
  have Hu0 := hid hu0
  have Hu1 := hid hu1
  clear hu0 hu1
  repeat still_step
  still_call (sum_st _ _ _ _ hall (by omega) _ hbody)
  repeat still_step
  refine wpStill_nil ?_
  change Exit.then _ _ Exit.normal _ Ve
  clear s1 s2 s3 s4 s5 s6 s7 s8 s9 d5 d6 hbody
  generalize sumN (bodyO cr by_ co sq ds) = sm at *
  have hu0 := Hu0.out
  have hu1 := Hu1.out
  have z1 : bits .or .i64 (IntKind.i64.wrap (IntKind.i64.wrap (u0 : Int) * 256)) (IntKind.i64.wrap (u1 : Int)) = (sm : Int) := by
    rw [IntWalk.i64_in (u0 : Int) (by omega), IntWalk.i64_in (u1 : Int) (by omega), IntWalk.i64_in ((u0 : Int) * 256) (by omega)]
    exact or_word _ _ _ (by omega) (by omega) (by omega)
  clear hu0 hu1
  rw [z1]
  clear z1
  go_wp2_with fail
  obtain ⟨f1, f2, f3, f4⟩ := first_bits cr (by omega) by_ co
  have q1 : bits .and .i64 (firstO cr by_ co : Int) 1023 = (cr : Int) := (i64_and_nat _ 1023 (by omega) (by decide)).trans (congrArg (fun (x : Nat) => (x : Int)) f1)
  have q2 : bits .and .i64 (firstO cr by_ co : Int) 8192 = ((firstO cr by_ co &&& 8192 : Nat) : Int) := i64_and_nat _ 8192 (by omega) (by decide)
  have q3 : bits .and .i64 (firstO cr by_ co : Int) 4096 = ((firstO cr by_ co &&& 4096 : Nat) : Int) := i64_and_nat _ 4096 (by omega) (by decide)
  have q4 : bits .and .i64 (firstO cr by_ co : Int) 52224 = 0 := (i64_and_nat _ 52224 (by omega) (by decide)).trans (congrArg (fun (x : Nat) => (x : Int)) f4)
  have q2' := (cast_ne _).trans f2
  have q3' := (cast_ne _).trans f3
  clear f1 f2 f3 f4
  generalize firstO cr by_ co &&& 8192 = x8 at *
  generalize firstO cr by_ co &&& 4096 = x4 at *
  generalize hFF : firstO cr by_ co = F at *
  clear hFF hF
  have r1 : ((n : Int) + 6) / 1024 = 0 := by omega
  have hmid := hrd
  have s1 : IntKind.i64.wrap ((n : Int) + 7 - 2) = (n : Int) + 5 := by rw [show (n : Int) + 7 - 2 = (n : Int) + 5 by omega]; exact IntWalk.i64_in _ (by omega)
  have s6 : max ((n : Int) + 5) 0 = (n : Int) + 5 := by omega
  have s7 : ¬ (c = 5) := by omega
  have s8 : (0 : Int) ≤ (n : Int) + 5 := by omega
  have s2 : (n : Int) + 5 ≤ (c : Int) := by omega
  have s3 : (5 : Int) ≤ (n : Int) + 5 := by omega
  have s4 : ((n : Int) + 5).toNat = n + 5 := by omega
  have t4 : (4 : Int) < (n : Int) + 7 := by omega
  obtain ⟨B0, hB0⟩ : ∃ B0, B0 = Ve.heap.size := ⟨_, rfl⟩
  refine wp_region_plan [16, 18, 19] (Plan.of [0, 1, 2, 3, 4, 5, 6, 7, 8, 9, 10, 11, 12, 13, 14, 15] (.two 16 (Plan.of [17, 18, 19] .nil) 18 (Plan.of [16, 17, 19] .nil))) (Below B0) (fun _ => Below.refl _ _) (fun _ _ _ h k => h.trans k) (by kernel_rfl) (by kernel_rfl) ?_
  simp only [Plan.of, Plan.lay, List.contains_cons, List.contains_nil, List.getD_cons_zero, List.getD_cons_succ, Nat.reduceBEq, Bool.or_false, Bool.or_true]
  have d4 : Ve.drew.cell? ⟨rb, ro + 4, none⟩ = _ := d4
  have Ad : Ve.drew.heap[w.heap.size]? = _ := Ad
  have Bd := Bd.drew
  have hrd := hrd.below ((Below.refl _ Ve).drew)
  have hB0' : B0 = Ve.drew.heap.size := hB0
  clear hB0 d5 d6
  generalize Ve.drew = Ve at *
  have d4' : ∀ w', Below B0 Ve w' → w'.cell? ⟨rb, ro + 4, none⟩ = some (.int .u8 (sq : Nat)) := fun w' hw => (hw.cell (p := ⟨rb, ro + 4, none⟩) (by rw [hB0']; exact World.block_lt_of_cell? Ve _ d4)).trans d4
  have HB := hid hB0'
  clear hB0'
  repeat (refine wpTL_do rfl (fun w' hw' => (by go_simp; rfl)) ?_; simp only [Act.put, List.setIfInBounds_toArray, List.set_cons_succ, List.set_cons_zero])
  have hdat : Rd Ve (some ⟨rb, ro + 5, none⟩) n (c - 5) (vb ds) := by
    have h := encO_mid cr by_ co sq ds
    have hl := hrd.len
    refine ⟨by rw [vb_len]; exact hn, by omega, by unfold maxLen; omega, (fun h => by cases h), fun _ => ⟨rb, ro + 5, rfl, ?_, fun j hj => ?_⟩⟩
    · obtain ⟨b', o', hb', hlt, _⟩ := hrd.cell 0 (by omega)
      cases hb'; exact hlt
    · obtain ⟨b', o', hb', _, hc⟩ := hrd.cell (5 + j) (by omega)
      cases hb'
      rw [Nat.add_assoc, hc, vb_get _ _ (by omega)]
      have e1 : nth (encO cr by_ co sq ds) (5 + j) = nth ds j := by
        have h2 : nth (((encO cr by_ co sq ds).drop 5).take ds.length) j = nth ds j := by rw [h]
        rw [nth_take, if_pos (by omega)] at h2
        simpa [nth, List.getD_eq_getElem?_getD] using h2
      rw [e1]
  have hHlt : w.heap.size < Ve.heap.size := (Array.getElem?_eq_some_iff.1 Ad).1
  clear hrd d4 d4'
  refine wpTL_two ?_ ?_
  · refine wpTL_call rfl (fun K hK => ?_)
    go_wp2_with fail
    refine (clone_any (some ⟨rb, ro + 5, none⟩) n (c - 5) ds _ hdat (by omega)).mono ?_
    rintro e Vc ⟨ao, cc, rfl, oo, Bc⟩
    refine hK _ _ (by rw [HB.out]; exact Bc) ?_
    clear hK K
    try simp only [Act.put, List.setIfInBounds_toArray, List.set_cons_succ, List.set_cons_zero]
    repeat (refine wpTL_do rfl (fun w' hw' => (by go_simp; rfl)) ?_; simp only [Act.put, List.setIfInBounds_toArray, List.set_cons_succ, List.set_cons_zero])
    refine wpTL_call rfl (fun K hK => ?_)
    go_wp2_with fail
    refine hK _ _ ((below_alloc _ _).mono (by rw [HB.out]; exact Bc.size)) ?_
    clear hK K
    try simp only [Act.put, List.setIfInBounds_toArray, List.set_cons_succ, List.set_cons_zero]
    refine wpTL_call rfl (fun K hK => ?_)
    go_wp2_with fail
    refine hK _ _ (below_alloc2 _ _ _ (by rw [HB.out]; exact Bc.size)) ?_
    clear hK K
    try simp only [Act.put, List.setIfInBounds_toArray, List.set_cons_succ, List.set_cons_zero]
    have A7 := heap_alloc_new Vc (.cells #[.int .i64 (cr : Int), .bool by_, .bool co, .int .i64 (sq : Int), .slice ao n cc] 33)
    have bf := below_alloc Vc (.cells #[.int .i64 (cr : Int), .bool by_, .bool co, .int .i64 (sq : Int), .slice ao n cc] 33)
    have Af := row_below (row_below Ad Bc) bf
    have hdr := (Rd.ofOwn oo).below bf
    have Bf := (Bd.trans (Bc.mono Bd.size)).trans (bf.mono (Nat.le_trans Bd.size Bc.size))
    have hne : Vc.heap.size ≠ w.heap.size := by have := Bc.size; omega
    have hdn : ∀ b off, 0 < n → ao = some ⟨b, off, none⟩ → some b ≠ some w.heap.size := fun b off h0 h => by
      obtain ⟨_, _, hv, _, _, hh⟩ := own_form oo
      cases hv
      rcases hh with ⟨h', _⟩ | ⟨g', h', h2, _⟩
      · rw [h'] at h; cases h
      · rw [h'] at h; cases h; intro he; cases he; omega
    have hfr : ∀ i, (Vc.alloc (.cells #[.int .i64 (cr : Int), .bool by_, .bool co, .int .i64 (sq : Int), .slice ao n cc] 33)).frozen? ⟨w.heap.size, i, none⟩ = false := frozen_row Af
    generalize Vc.heap.size = bx at *
    generalize Vc.alloc (.cells #[.int .i64 (cr : Int), .bool by_, .bool co, .int .i64 (sq : Int), .slice ao n cc] 33) = Vf at *
    refine wpTL_nil ?_
    obtain ⟨z0, z1, z2, z3, z4⟩ := oAt_row Af
    have fz := frozen_row Af
    obtain ⟨m0, m1, m2, m3, m4⟩ := oAt_row A7
    cases co with
    | false =>
      go_wp2_with fail
      obtain ⟨A5, g5⟩ := five Af (.int .i64 (cr : Int)) (.bool by_) (.bool false) (.int .i64 (sq : Int)) (.slice ao n cc)
      have hdr := hdr.grown g5 hdn
      have Bf := Bf.grown g5 Bf.size (fun k e => by cases e; exact Nat.le_refl _)
      generalize ((((Vf.setCell ⟨w.heap.size, 0, none⟩ (.int .i64 (cr : Int))).setCell ⟨w.heap.size, 1, none⟩ (.bool by_)).setCell ⟨w.heap.size, 2, none⟩ (.bool false)).setCell ⟨w.heap.size, 3, none⟩ (.int .i64 (sq : Int))).setCell ⟨w.heap.size, 4, none⟩ (.slice ao n cc) = V9 at *
      obtain ⟨y0, y1, y2, y3, y4⟩ := oAt_row A5
      refine bodyPost_ret (by simp only [results, Try.results9, go_sem]; simp [go_sem, y0, y1, y2, y3, y4]; rfl) rfl ?_
      exact ⟨ao, cc, rfl, hdr, Bf⟩
    | true =>
      obtain rfl : by_ = true := h3 rfl
      go_wp2_with fail
      obtain ⟨A5, g5⟩ := five Af (.int .i64 (cr : Int)) (.bool true) (.bool true) (.int .i64 (sq : Int)) (.slice ao n cc)
      have hdr := hdr.grown g5 hdn
      have Bf := Bf.grown g5 Bf.size (fun k e => by cases e; exact Nat.le_refl _)
      generalize ((((Vf.setCell ⟨w.heap.size, 0, none⟩ (.int .i64 (cr : Int))).setCell ⟨w.heap.size, 1, none⟩ (.bool true)).setCell ⟨w.heap.size, 2, none⟩ (.bool true)).setCell ⟨w.heap.size, 3, none⟩ (.int .i64 (sq : Int))).setCell ⟨w.heap.size, 4, none⟩ (.slice ao n cc) = V9 at *
      obtain ⟨y0, y1, y2, y3, y4⟩ := oAt_row A5
      refine bodyPost_ret (by simp only [results, Try.results9, go_sem]; simp [go_sem, y0, y1, y2, y3, y4]; rfl) rfl ?_
      exact ⟨ao, cc, rfl, hdr, Bf⟩
  · refine wpTL_call rfl (fun K hK => ?_)
    go_wp2_with fail
    have bz := below_alloc Ve (.cells #[.int .i64 0, .bool false, .bool false, .int .i64 0, .slice none 0 0] 33)
    have Az := heap_alloc_new Ve (.cells #[.int .i64 0, .bool false, .bool false, .int .i64 0, .slice none 0 0] 33)
    refine hK _ _ (by rw [HB.out]; exact bz) ?_
    clear hK K
    try simp only [Act.put, List.setIfInBounds_toArray, List.set_cons_succ, List.set_cons_zero]
    refine wpTL_call rfl (fun K hK => ?_)
    go_wp2_with fail
    refine (clone_any (some ⟨rb, ro + 5, none⟩) n (c - 5) ds _ (hdat.below bz) (by omega)).mono ?_
    rintro e Vc ⟨ao, cc, rfl, oo, Bc⟩
    refine hK _ _ (Bc.mono (by rw [HB.out]; exact bz.size)) ?_
    clear hK K
    try simp only [Act.put, List.setIfInBounds_toArray, List.set_cons_succ, List.set_cons_zero]
    have Az := row_below Az Bc
    have Af := row_below (row_below Ad bz) Bc
    have hne : Ve.heap.size ≠ w.heap.size := by omega
    have hrc := Rd.ofOwn oo
    have hge : ∀ b off, 0 < n → ao = some ⟨b, off, none⟩ → Ve.heap.size < b := fun b off h0 h => by
      obtain ⟨_, _, hv, _, _, hh⟩ := own_form oo
      cases hv
      rcases hh with ⟨h', _⟩ | ⟨g', h', h2, _⟩
      · rw [h'] at h; cases h
      · rw [h'] at h; cases h; simp at h2; omega
    have Bf := (Bd.trans (bz.mono Bd.size)).trans (Bc.mono (Nat.le_trans Bd.size bz.size))
    clear oo Bc bz hdat
    have hfr := frozen_row Az
    obtain ⟨x0, x1, x2, x3, x4⟩ := oAt_row Az
    repeat (refine wpTL_do rfl (fun w' hw' => (by go_simp; rfl)) ?_; simp only [Act.put, List.setIfInBounds_toArray, List.set_cons_succ, List.set_cons_zero])
    refine wpTL_call rfl (fun K hK => ?_)
    go_wp2_with fail
    obtain ⟨A7, g7⟩ := five Az (.int .i64 (cr : Int)) (.bool by_) (.bool co) (.int .i64 (sq : Int)) (.slice ao n cc)
    have hle2 : Ve.heap.size ≤ Vc.heap.size := Nat.le_of_lt (Array.getElem?_eq_some_iff.1 Az).1
    refine hK _ _ ((Below.refl B0 Vc).grown g7 (by rw [HB.out]; exact hle2) (fun k e => by cases e; rw [HB.out]; exact Nat.le_refl _)) ?_
    clear hK K
    try simp only [Act.put, List.setIfInBounds_toArray, List.set_cons_succ, List.set_cons_zero]
    have Af := row_grown Af g7 (by omega)
    have hdr := hrc.grown g7 (fun b off h0 h => by have := hge b off h0 h; intro he; cases he; omega)
    have hdn : ∀ b off, 0 < n → ao = some ⟨b, off, none⟩ → some b ≠ some w.heap.size := fun b off h0 h => by have := hge b off h0 h; intro he; cases he; omega
    have Bf := Bf.grown g7 Bf.size (fun k e => by cases e; omega)
    clear Az g7 hrc hge hfr x0 x1 x2 x3 x4 hle2
    generalize ((((Vc.setCell ⟨Ve.heap.size, 0, none⟩ (.int .i64 (cr : Int))).setCell ⟨Ve.heap.size, 1, none⟩ (.bool by_)).setCell ⟨Ve.heap.size, 2, none⟩ (.bool co)).setCell ⟨Ve.heap.size, 3, none⟩ (.int .i64 (sq : Int))).setCell ⟨Ve.heap.size, 4, none⟩ (.slice ao n cc) = Vf at *
    generalize Ve.heap.size = bx at *
    refine wpTL_nil ?_
    obtain ⟨z0, z1, z2, z3, z4⟩ := oAt_row Af
    have fz := frozen_row Af
    obtain ⟨m0, m1, m2, m3, m4⟩ := oAt_row A7
    cases co with
    | false =>
      go_wp2_with fail
      obtain ⟨A5, g5⟩ := five Af (.int .i64 (cr : Int)) (.bool by_) (.bool false) (.int .i64 (sq : Int)) (.slice ao n cc)
      have hdr := hdr.grown g5 hdn
      have Bf := Bf.grown g5 Bf.size (fun k e => by cases e; exact Nat.le_refl _)
      generalize ((((Vf.setCell ⟨w.heap.size, 0, none⟩ (.int .i64 (cr : Int))).setCell ⟨w.heap.size, 1, none⟩ (.bool by_)).setCell ⟨w.heap.size, 2, none⟩ (.bool false)).setCell ⟨w.heap.size, 3, none⟩ (.int .i64 (sq : Int))).setCell ⟨w.heap.size, 4, none⟩ (.slice ao n cc) = V9 at *
      obtain ⟨y0, y1, y2, y3, y4⟩ := oAt_row A5
      refine bodyPost_ret (by simp only [results, Try.results9, go_sem]; simp [go_sem, y0, y1, y2, y3, y4]; rfl) rfl ?_
      exact ⟨ao, cc, rfl, hdr, Bf⟩
    | true =>
      obtain rfl : by_ = true := h3 rfl
      go_wp2_with fail
      obtain ⟨A5, g5⟩ := five Af (.int .i64 (cr : Int)) (.bool true) (.bool true) (.int .i64 (sq : Int)) (.slice ao n cc)
      have hdr := hdr.grown g5 hdn
      have Bf := Bf.grown g5 Bf.size (fun k e => by cases e; exact Nat.le_refl _)
      generalize ((((Vf.setCell ⟨w.heap.size, 0, none⟩ (.int .i64 (cr : Int))).setCell ⟨w.heap.size, 1, none⟩ (.bool true)).setCell ⟨w.heap.size, 2, none⟩ (.bool true)).setCell ⟨w.heap.size, 3, none⟩ (.int .i64 (sq : Int))).setCell ⟨w.heap.size, 4, none⟩ (.slice ao n cc) = V9 at *
      obtain ⟨y0, y1, y2, y3, y4⟩ := oAt_row A5
      refine bodyPost_ret (by simp only [results, Try.results9, go_sem]; simp [go_sem, y0, y1, y2, y3, y4]; rfl) rfl ?_
      exact ⟨ao, cc, rfl, hdr, Bf⟩
end Go.Proofs.Ytkngoomkmbkenaa
