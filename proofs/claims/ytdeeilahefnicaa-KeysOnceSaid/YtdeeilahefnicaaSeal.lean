/- Keys: Seal. -/
import Derived.Test.YtdeeilahefnicaaCover
import Derived.Test.YtdeeilahefnicaaTag
import Derived.Test.YtdeeilahefnicaaMay
import Derived.Test.YtdeeilahefnicaaAppend
namespace Go.Proofs.Ytdeeilahefnicaa
set_option linter.unusedVariables false
open Go.RowKit Go.Shelf

/-- the first byte, and some of the counter's six -/
def hd (id c : Nat) : Nat → List Nat
  | 0 => [id]
  | i + 1 => hd id c i ++ [c / 2 ^ (40 - 8 * i) % 256]
theorem hd_len (id c i : Nat) : (hd id c i).length = i + 1 := by
  induction i with
  | zero => rfl
  | succ i ih => rw [hd, List.length_append, ih]; rfl
theorem hd_b (id c i : Nat) (hi : id ≤ 255) : AllB (hd id c i) := by
  induction i with
  | zero => intro x hx; simp [hd] at hx; omega
  | succ i ih => exact ih.append (fun x hx => by simp at hx; omega)
/-- what is tagged -/
noncomputable def Pre (id : Nat) (ws : List Int) (c : Nat) (bs : List Nat) : List Nat := hd id c 6 ++ Cv ws c bs
theorem Pre_len (id : Nat) (ws : List Int) (c : Nat) (bs : List Nat) : (Pre id ws c bs).length = bs.length + 7 := by unfold Pre; rw [List.length_append, hd_len, Cv_len]; omega
theorem Pre_b (id : Nat) (ws : List Int) (c : Nat) {bs : List Nat} (hi : id ≤ 255) (h : AllB bs) : AllB (Pre id ws c bs) := (hd_b _ _ _ hi).append (Cv_b _ _ h)
/-- what is sealed -/
noncomputable def Sl (id : Nat) (ws : List Int) (c : Nat) (bs : List Nat) : List Nat := Pre id ws c bs ++ Tg ws c (Pre id ws c bs)
theorem Sl_len (id : Nat) (ws : List Int) (c : Nat) (bs : List Nat) : (Sl id ws c bs).length = bs.length + 15 := by unfold Sl; rw [List.length_append, Pre_len, Tg_len]
theorem Sl_b (id : Nat) (ws : List Int) (c : Nat) {bs : List Nat} (hi : id ≤ 255) (h : AllB bs) : AllB (Sl id ws c bs) := (Pre_b _ _ _ hi h).append (Tg_b _ _ _)

theorem in_ok (c : Nat) (hc : c < 281474976710656) (w : World) : Calls Try.prog 11 #[.int .i64 (c : Int), .int .i64 281474976710655] w fun e w' => e = .returned (.bool true) ∧ w = w' := by
  refine (in_yes (c : Int) 281474976710655 w ?_).mono fun _ _ h => h
  omega

set_option maxRecDepth 100000 in
set_option maxHeartbeats 4000000 in
theorem seal_ok (id : Nat) (top seen : Int) (wa : Addr) (wc : Nat) (ws : List Int) (h : KeyOk (id : Int) top seen ws) (c : Nat) (ua : Option Addr) (ub uo un uc : Nat) (bs : List Nat) (w : World) (hW : Rd w (some wa) 8 wc (vz ws)) (hc : c < 281474976710656) (hua : 0 < un → ua = some ⟨ub, uo, none⟩) (hu : Rd w ua un uc (vb bs)) (hb : AllB bs) (hun : un ≤ 1000) :
    Calls Try.prog 7 #[.agg #[.int .i64 (id : Int), .slice (some wa) 8 wc, .int .i64 top, .int .i64 seen], .int .i64 (c : Int), .slice ua un uc] w fun e w' => ∃ g oc, e = .returned (.tuple #[.slice (some ⟨g, 0, none⟩) (un + 15) oc, .int .i64 0]) ∧ w'.ownsRow w.heap.size 5 1 (.slice (some ⟨g, 0, none⟩) (un + 15) oc) (un + 15) (vb (Sl id ws c bs)) ∧ Below w.heap.size w w' := by
  obtain ⟨i0, hi0, hz0, hz1, hz2⟩ := info_parts Try.info5
  have hid2 : id ≤ 255 := by have := h.hid; omega
  have A1 := heap_alloc_new w (.cells #[.int .i64 (id : Int), .slice (some wa) 8 wc, .int .i64 top, .int .i64 seen] 25)
  have b1 := below_alloc w (.cells #[.int .i64 (id : Int), .slice (some wa) 8 wc, .int .i64 top, .int .i64 seen] 25)
  go_enter Try.func7, Try.ntmps7
  go_wp2_with fail
  refine (may_ok (id : Int) top seen (some wa) wc ws h _ (hW.below b1)).mono ?_
  rintro e V ⟨rfl, bV⟩
  have A1 := row_below A1 bV
  have hB := b1.trans (bV.mono b1.size)
  clear b1 bV
  go_wp2_with fail
  refine (in_ok c hc V).mono ?_
  rintro e V' ⟨rfl, rfl⟩
  have k0 : V.cell? ⟨w.heap.size, 0, none⟩ = some (.int .i64 (id : Int)) := by rw [cell_of_row _ _ _ _ _ _ A1]; rfl
  have t1 : decide ((1000 : Int) < (un : Int)) = false := by simp; omega
  have e0 : IntKind.u8.wrap (id : Int) = (id : Int) := by rw [IntKind.wrap_u8]; omega
  go_wp2_with fail
  have oR := World.ownsRow_lit (base := w.heap.size) (e := 5) (size := 1) V #[.int .u8 (id : Int)] 1 hB.size (by unfold maxLen; omega) rfl
  have bA := below_alloc V (.cells #[.int .u8 (id : Int)] 5)
  have A1 := row_below A1 bA
  have hB := hB.trans (bA.mono hB.size)
  have oR : (V.alloc (.cells #[.int .u8 (id : Int)] 5)).ownsRow w.heap.size 5 1 (.slice (some ⟨V.heap.size, 0, none⟩) 1 1) 1 (vb (hd id c 0)) := oR
  clear bA k0 t1 e0
  generalize V.alloc (.cells #[.int .u8 (id : Int)] 5) = V1 at *
  generalize V.heap.size = g0 at *
  go_loopw [8, 26] (fun v k wr => ∃ (j : Nat) (va : Option Addr) (vc : Nat), v = .slice va (j + 1) vc ∧ k = .int .i64 (j : Int) ∧ j ≤ 6 ∧ wr.ownsRow w.heap.size 5 1 (.slice va (j + 1) vc) (j + 1) (vb (hd id c j)) ∧ wr.heap[w.heap.size]? = some (.cells #[.int .i64 (id : Int), .slice (some wa) 8 wc, .int .i64 top, .int .i64 seen] 25) ∧ Below w.heap.size w wr) (fun _ k _ => 6 - (intOf k).toNat)
  case atStart => exact ⟨0, _, _, rfl, rfl, by decide, oR, A1, hB⟩
  case round =>
    clear oR A1 hB
    obtain ⟨j, va, vc, rfl, rfl, hj, oR, A1, hB⟩ := hrel
    by_cases hj6 : j < 6
    · have t1 : (j : Int) < 6 := by omega
      have e1 : IntKind.i64.wrap (8 * (j : Int)) = 8 * (j : Int) := IntWalk.i64_in _ (by omega)
      have e2 : IntKind.i64.wrap (40 - 8 * (j : Int)) = 40 - 8 * (j : Int) := IntWalk.i64_in _ (by omega)
      have e3 : (0 : Int) ≤ 40 - 8 * (j : Int) := by omega
      have e4 : (40 - 8 * (j : Int)).toNat = 40 - 8 * j := by omega
      obtain ⟨y, hy⟩ : ∃ y, y = c / 2 ^ (40 - 8 * j) % 256 := ⟨_, rfl⟩
      have e5 : IntKind.u8.wrap ((c : Int) / 2 ^ (40 - 8 * j)) = (y : Int) := by rw [hy, IntKind.wrap_u8]; simp
      have HT : Hid (hd id c (j + 1) = hd id c j ++ [y]) := by show _ = _; rw [hy]; rfl
      clear hy
      go_wp2_with (at_builtin; refine hold ?_)
      unfold Hid
      have g7 := below_alloc wr (.cells #[.int .u8 (y : Nat)] 5)
      have o7 := ownsRow_below oR g7
      refine wpList_append_own _ rfl _ _ 22 rfl w.heap.size 5 i0 _ 1 1 Try.underlying22 hi0 hz0 hz1 hz2 rfl (by decide) (.slice va (j + 1) vc) (j + 1) (vb (hd id c j)) rfl o7 ⟨wr.heap.size, 0, none⟩ 1 1 (vb [y]) rfl rfl (one_new _ _ _) (vb_oneCell _) (by unfold maxLen; omega) (by omega) (Nat.le_trans hB.size g7.size) ?_
      intro v' W8 oV gV _
      obtain ⟨va', vc', rfl, _, _⟩ := own_slice oV
      rw [← vb_append, ← HT.out] at oV
      have A8 := row_kept (row_below A1 g7) o7 gV (by decide)
      have hB8 := (hB.trans (g7.mono hB.size)).grown gV (hB.trans (g7.mono hB.size)).size (fun b e => (o7.lt b e).1)
      clear gV o7 g7 hB A1 oR
      go_wp2_with fail
      go_roundw
      case rel => exact ⟨j + 1, va', vc', rfl, by go_num, by omega, oV, A8, hB8⟩
      case measure => simp [intOf]; omega
    · obtain rfl : j = 6 := by omega
      try rw [show ((6 : Nat) : Int) = 6 from rfl]
      clear hj6 hj
      have k1 : wr.cell? ⟨w.heap.size, 1, none⟩ = some (.slice (some wa) 8 wc) := by rw [cell_of_row _ _ _ _ _ _ A1]; rfl
      go_wp2_with fail
      refine (cover_ok (some wa) wc ws c ua ub uo un uc bs wr (hW.below hB) h.words hc hua (hu.below hB) hb hun).mono ?_
      rintro e w2 ⟨oa, oc, rfl, oC, b2⟩
      have A2 := row_below A1 b2
      have oR2 := ownsRow_below oR b2
      have hB2 := hB.trans (b2.mono hB.size)
      clear k1 A1 oR hB b2
      go_wp2_with (at_builtin; refine hold ?_)
      unfold Hid
      refine wpList_append_rd rfl _ _ 22 rfl w.heap.size 5 i0 _ 1 Try.underlying22 hi0 hz0 hz1 hz2 rfl va (6 + 1) vc (vb (hd id c 6)) rfl oR2 oa un oc (vb (Cv ws c bs)) rfl (Rd.ofOwn oC) (vb_oneCell _) (by omega) (by unfold maxLen; omega) hB2.size ?_
      intro pa pc w3 oP gP bP
      rw [← vb_append] at oP
      have A3 := row_kept A2 oR2 gP (by decide)
      have hB3 := hB2.trans bP
      have hP : hd id c 6 ++ Cv ws c bs = Pre id ws c bs := rfl
      rw [hP] at oP
      obtain ⟨pg, rfl⟩ := own_addr oP (by omega)
      clear gP bP oC oR2 A2 hB2 hP
      have k1 : w3.cell? ⟨w.heap.size, 1, none⟩ = some (.slice (some wa) 8 wc) := by rw [cell_of_row _ _ _ _ _ _ A3]; rfl
      go_wp2_with fail
      refine (tag_ok (some wa) wc ws c pg 0 (6 + 1 + un) pc (Pre id ws c bs) w3 (hW.below hB3) h.words hc (Rd.ofOwn oP) (Pre_b _ _ _ hid2 hb) (by omega)).mono ?_
      rintro e w4 ⟨ta, tc, rfl, oT, b4⟩
      have oP4 := ownsRow_below oP b4
      have hB4 := hB3.trans (b4.mono hB3.size)
      clear k1 A3 hB3 b4 oP
      go_wp2_with (at_builtin; refine hold ?_)
      unfold Hid
      refine wpList_append_rd rfl _ _ 22 rfl w.heap.size 5 i0 _ 1 Try.underlying22 hi0 hz0 hz1 hz2 rfl (some ⟨pg, 0, none⟩) (6 + 1 + un) pc (vb (Pre id ws c bs)) rfl oP4 ta 8 tc (vb (Tg ws c (Pre id ws c bs))) rfl (Rd.ofOwn oT) (vb_oneCell _) (by omega) (by unfold maxLen; omega) hB4.size ?_
      intro sa sc w5 oS gS bS
      rw [← vb_append] at oS
      have hB5 := hB4.trans bS
      have hS : Pre id ws c bs ++ Tg ws c (Pre id ws c bs) = Sl id ws c bs := rfl
      rw [hS] at oS
      have el : 6 + 1 + un + 8 = un + 15 := by omega
      rw [el] at oS
      obtain ⟨sg, rfl⟩ := own_addr oS (by omega)
      have El := hid el
      clear el gS bS hS oT oP4 hB4
      rw [El.out]
      go_wp2_with fail
      go_ret2
      exact ⟨sg, sc, rfl, oS, hB5⟩
end Go.Proofs.Ytdeeilahefnicaa
