/- Spread: the symbols of bits. -/
import Derived.Test.YtaedanklpedmkaaAtC
import Derived.Test.YtaedanklpedmkaaAppend
import Derived.Deep.DeepCutAuto
namespace Go.Proofs.Ytaedanklpedmkaa
set_option linter.unusedVariables false
open Go.RowKit

theorem pick_ok (r : Nat) (w : World) (h1 : 1 ≤ r) (h5 : r ≤ 5) : Calls Try.prog 9 #[.int .i64 (r : Int)] w fun e w' => e = .returned (.tuple #[.agg #[.string (patA r), .string (patB r)], .bool true]) ∧ Below w.heap.size w w' := by
  rcases (show r = 1 ∨ r = 2 ∨ r = 3 ∨ r = 4 ∨ r = 5 by omega) with rfl | rfl | rfl | rfl | rfl
  · exact pick_1 w
  · exact pick_2 w
  · exact pick_3 w
  · exact pick_4 w
  · exact pick_5 w
theorem at_ok (r i : Nat) (w : World) (h1 : 1 ≤ r) (h5 : r ≤ 5) (hi : i ≤ 100000) : Calls Try.prog 13 #[.agg #[.string (patA r), .string (patB r)], .int .i64 (i : Int)] w fun e w' => e = .returned (.tuple #[.bool (ka r i), .bool (kb r i)]) ∧ Below w.heap.size w w' := by
  rcases (show r = 1 ∨ r = 2 ∨ r = 3 ∨ r = 4 ∨ r = 5 by omega) with rfl | rfl | rfl | rfl | rfl
  · exact at_1 i w hi
  · exact at_2 i w hi
  · exact at_3 i w hi
  · exact at_4 i w hi
  · exact at_5 i w hi
theorem big_fn (x : Nat) (w : World) (hx : x ≤ 1) : Calls Try.prog 11 #[.int .u8 (x : Int)] w fun e w' => e = .returned (.bool false) ∧ w' = w := by
  have t1 : decide ((1 : Int) < (x : Int)) = false := decide_eq_false (by omega)
  go_enter Try.func11, Try.ntmps11
  go_wp2
  go_ret
  exact ⟨rfl, rfl⟩
theorem idxb_ok (ba0 : Option Addr) (n c : Nat) (bs : List Nat) (w : World) (hb : Rd w ba0 n c (vb bs)) (h1 : ∀ i, nth bs i ≤ 1) (hn : n ≤ 100000) :
    Calls Try.prog 20 #[.slice ba0 n c, .func (.func 11) #[] #[]] w fun e w' => e = .returned (.int .i64 (-1)) ∧ w' = w := by
  go_enter Try.func20, Try.ntmps20
  go_wp2
  go_loopw [8] (fun i wr => ∃ j : Nat, j ≤ n ∧ i = .int .i64 j ∧ wr = w) (fun i _ => n - (intOf i).toNat)
  case atStart => exact ⟨0, by omega, rfl, rfl⟩
  case round =>
    obtain ⟨j, hj, rfl, rfl⟩ := hrel
    by_cases hlt : j < n
    · obtain ⟨b, off, rfl, hbl, hcell⟩ := hb.cell j hlt
      have hf := big_fn (nth bs j) wr (h1 j)
      have hx := h1 j
      generalize nth bs j = x at *
      go_wp2_with fail
      refine hf.mono ?_
      rintro e w' ⟨rfl, rfl⟩
      go_wp2
      go_roundw
      case rel => exact ⟨j + 1, by omega, by go_num, trivial⟩
      case measure => simp [intOf]; omega
    · obtain rfl : n = j := by omega
      go_wp2
      go_ret
      exact ⟨rfl, rfl⟩
theorem hasb_ok (ba0 : Option Addr) (n c : Nat) (bs : List Nat) (w : World) (hb : Rd w ba0 n c (vb bs)) (h1 : ∀ i, nth bs i ≤ 1) (hn : n ≤ 100000) :
    Calls Try.prog 10 #[.slice ba0 n c, .func (.func 11) #[] #[]] w fun e w' => e = .returned (.bool false) ∧ w' = w := by
  go_enter Try.func10, Try.ntmps10
  go_wp2_with fail
  refine (idxb_ok ba0 n c bs w hb h1 hn).mono ?_
  rintro e w' ⟨rfl, rfl⟩
  go_wp2
  go_ret
  exact ⟨rfl, rfl⟩

/-- the state behind i bits -/
def cst (bs : List Nat) : Nat → Nat
  | 0 => 0
  | i + 1 => (2 * cst bs i + nth bs i) % 64
theorem cst_lt (bs : List Nat) : ∀ i, cst bs i < 64
  | 0 => (by decide : 0 < 64)
  | i + 1 => Nat.mod_lt _ (by decide)
/-- the symbols of the first i bits -/
def outTo (r : Nat) (bs : List Nat) : Nat → List Nat
  | 0 => []
  | i + 1 => (outTo r bs i ++ (if ka r i = true then [q1 (2 * cst bs i + nth bs i)] else [])) ++ (if kb r i = true then [q2 (2 * cst bs i + nth bs i)] else [])
theorem outTo_len (r : Nat) (bs : List Nat) : ∀ i, (outTo r bs i).length ≤ 2 * i
  | 0 => Nat.le_refl _
  | i + 1 => by
    have := outTo_len r bs i
    rw [outTo, List.length_append, List.length_append]
    split <;> split <;> simp <;> omega
theorem or_shift : ∀ s : Nat, s < 64 → ∀ b : Nat, b < 2 → bits .or .i64 ((s : Int) * 2) (b : Int) = ((2 * s + b : Nat) : Int) := by decide +kernel
theorem Try.info5 : (Try.prog.info? 5).map (fun i => (i.zero, i.size, i.bytes)) = some (some (.int .u8 0), 1, 1) := by kernel_rfl
theorem rd_lit25 (W : World) (x : Nat) : Rd (W.alloc (.cells #[.int .u8 (x : Int)] 5)) (some ⟨W.heap.size, 0, none⟩) 1 1 (vb [x]) := by
  have h := World.ownsRow_lit (base := W.heap.size) (e := 5) (size := 1) W #[.int .u8 (x : Int)] 1 (Nat.le_refl _) (by decide) rfl
  exact Rd.ofOwn h
set_option maxRecDepth 100000 in
set_option maxHeartbeats 4000000 in
theorem spread_ok (ba0 : Option Addr) (n c r : Nat) (bs : List Nat) (w : World) (hb : Rd w ba0 n c (vb bs)) (hb1 : ∀ i, nth bs i ≤ 1) (hn : n ≤ 16384) (hr1 : 1 ≤ r) (hr5 : r ≤ 5) :
    Calls Try.prog 6 #[.slice ba0 n c, .int .i64 (r : Int)] w fun e w' => ∃ ao cp, e = .returned (.tuple #[.slice ao (outTo r bs (n + 6)).length cp, .int .i64 0]) ∧
      w'.ownsRow w.heap.size 5 1 (.slice ao (outTo r bs (n + 6)).length cp) (outTo r bs (n + 6)).length (vb (outTo r bs (n + 6))) ∧ Below w.heap.size w w' := by
  obtain ⟨i0, hi, hz0, hz1, hz2⟩ := info_parts Try.info5
  have hbl : bs.length = n := by have := hb.len; rwa [vb_len] at this
  have Hbl := hid hbl
  clear hbl
  have hpk := pick_ok r w hr1 hr5
  go_enter Try.func6, Try.ntmps6
  go_wp2_with fail
  refine hpk.mono ?_
  rintro e W1 ⟨rfl, B1⟩
  have hb2 := hb.below B1
  have A := heap_alloc_new W1 (.cells #[.string (patA r), .string (patB r)] 36)
  have b1 := below_alloc W1 (.cells #[.string (patA r), .string (patB r)] 36)
  generalize hpa : patA r = pa at *
  generalize hpb : patB r = pb at *
  have Hpa := hid hpa
  have Hpb := hid hpb
  clear hpa hpb hpk
  go_wp2_with fail
  refine (hasb_ok ba0 n c bs _ (hb2.below b1) hb1 (by omega)).mono ?_
  rintro e V ⟨rfl, rfl⟩
  have hb3 := hb2.below b1
  have BV := B1.trans (b1.mono B1.size)
  obtain ⟨g, hg⟩ : ∃ g, g = W1.heap.size := ⟨_, rfl⟩
  rw [← hg] at A ⊢
  have hgl := row_lt A
  clear hg b1 hb2 hb B1
  generalize W1.alloc (.cells #[.string pa, .string pb] 36) = V at *
  go_wp2
  go_loopw [8, 9, 34] (fun ov sv i wr => ∃ (k cp : Nat) (ao : Option Addr), k ≤ n + 6 ∧ i = .int .i64 k ∧ sv = .int .i64 (cst bs k : Nat) ∧ ov = .slice ao (outTo r bs k).length cp ∧
    wr.ownsRow V.heap.size 5 1 (.slice ao (outTo r bs k).length cp) (outTo r bs k).length (vb (outTo r bs k)) ∧ Below V.heap.size V wr) (fun _ _ i _ => n + 6 - (intOf i).toNat)
  case atStart => exact ⟨0, 0, none, by omega, rfl, rfl, rfl, World.ownsRow_nil _ _ _ _, Below.refl _ _⟩
  case round =>
    obtain ⟨k, cp, ao, hk, rfl, rfl, rfl, ho, hB⟩ := hrel
    by_cases hlt : k < n + 6
    · have hlen := outTo_len r bs k
      have hst := cst_lt bs k
      have hbit := hb1 k
      have Hst : Hid (cst bs (k + 1) = (2 * cst bs k + nth bs k) % 64) := rfl
      have Hot : Hid (outTo r bs (k + 1) = (outTo r bs k ++ (if ka r k = true then [q1 (2 * cst bs k + nth bs k)] else [])) ++ (if kb r k = true then [q2 (2 * cst bs k + nth bs k)] else [])) := rfl
      have hnz : n ≤ k → nth bs k = 0 := fun h => nth_ge (by rw [Hbl.out]; exact h)
      generalize hs' : cst bs (k + 1) = s' at *
      have Hs' := hid hs'
      clear hs'
      generalize ho' : outTo r bs (k + 1) = o' at *
      have Ho' := hid ho'
      clear ho'
      generalize outTo r bs k = o at *
      generalize cst bs k = s at *
      have hcell : k < n → ∃ b off, ba0 = some ⟨b, off, none⟩ ∧ wr.cell? ⟨b, off + k, none⟩ = some (.int .u8 (nth bs k)) := fun h => by
        obtain ⟨b, off, h1, _, h2⟩ := (hb3.below hB).cell k h
        exact ⟨b, off, h1, h2⟩
      generalize nth bs k = bt at *
      have A2 := row_below A hB
      have c0 : wr.cell? ⟨g, 0, none⟩ = some (.string pa) := by rw [cell_of_row _ _ _ _ _ _ A2]; rfl
      have c1 : wr.cell? ⟨g, 1, none⟩ = some (.string pb) := by rw [cell_of_row _ _ _ _ _ _ A2]; rfl
      have hpr := pair_ok bt s wr (by omega) hst
      have hat := fun W => at_ok r k W hr1 hr5 (by omega)
      rw [Hpa.out, Hpb.out] at hat
      have eor := or_shift s hst bt (by omega)
      have hx128 : 2 * s + bt < 128 := by omega
      obtain ⟨x, hx⟩ : ∃ x, x = 2 * s + bt := ⟨_, rfl⟩
      rw [← hx] at hpr eor Hst Hot hx128
      have Hx := hid hx
      clear hx
      have em : (x : Int) % 64 = ((x % 64 : Nat) : Int) := by omega
      rw [← Hst.out] at em
      have hq1 := q1_lt x
      have hq2 := q2_lt x
      generalize q1 x = p1 at *
      generalize q2 x = p2 at *
      go_upto_if 40 with (fail)
      go_cut [11] (fun v wx => v = .int .i64 (bt : Nat) ∧ wx = wr)
      case first =>
        by_cases hkn : k < n
        · obtain ⟨b, off, rfl, hc⟩ := hcell hkn
          go_wp2_with fail
          go_meet
          exact ⟨rfl, rfl⟩
        · obtain rfl := hnz (by omega)
          go_wp2_with fail
          go_meet
          exact ⟨rfl, rfl⟩
      case rest =>
        obtain ⟨rfl, rfl⟩ := hcut
        clear hcell hnz
        go_wp2_with fail
        refine hpr.mono ?_
        rintro e w' ⟨rfl, rfl⟩
        go_wp2_with fail
        refine (hat _).mono ?_
        rintro e W3 ⟨rfl, B3⟩
        have hB3 := hB.trans (B3.mono hB.size)
        have ho3 := ownsRow_below ho B3
        clear ho hB B3 A2 c0 c1 hpr hat hb3
        have e1 : IntKind.u8.wrap (p1 : Int) = (p1 : Int) := by rw [IntKind.wrap_u8]; omega
        have e2 : IntKind.u8.wrap (p2 : Int) = (p2 : Int) := by rw [IntKind.wrap_u8]; omega
        cases hka : ka r k
        · cases hkb : kb r k
          · have Hot : Hid (o' = o) := by
              show _ = _
              have h := Hot.out
              rw [hka, hkb] at h
              simpa using h
            have OW := hid ho3
            have Hfin : Hid (o' = o) := Hot
            have Hka := hid hka
            have Hkb := hid hkb
            clear hka hkb
            go_wp2
            go_roundw
            case rel => exact ⟨k + 1, cp, ao, by omega, by go_num, by rw [Hs'.out, em], by rw [Ho'.out, Hfin.out], by rw [Ho'.out, Hfin.out]; exact OW.out, hB3⟩
            case measure => simp [intOf]; omega
          · have Hot : Hid (o' = o ++ [p2]) := by
              show _ = _
              have h := Hot.out
              rw [hka, hkb] at h
              simpa using h
            have b1 := below_alloc W3 (.cells #[.int .u8 (p2 : Int)] 5)
            have hrd := rd_lit25 W3 p2
            go_wp2_with (at_builtin; refine hold ?_)
            unfold Hid
            refine wpList_append_rd rfl _ _ 25 rfl V.heap.size 5 i0 (.int .u8 0) 1 Try.underlying25 hi hz0 hz1 hz2 rfl ao o.length cp _ rfl (ownsRow_below ho3 b1) (some ⟨W3.heap.size, 0, none⟩) 1 1 (vb [p2]) rfl hrd (vb_oneCell _) (by omega) (by unfold maxLen; omega) (by have := hB3.size; simp; omega) ?_
            intro ao5 cp5 W5 own5 gr Bx
            rw [← vb_append] at own5
            have B5 := (hB3.alloc hB3.size _).trans Bx
            clear gr Bx b1 hrd
            have hl5 : o.length + 1 = (o ++ [p2]).length := by rw [List.length_append]; rfl
            have own5 : Hid (W5.ownsRow V.heap.size 5 1 (.slice ao5 (o ++ [p2]).length cp5) (o ++ [p2]).length (vb (o ++ [p2]))) := by rw [hl5] at own5; exact own5
            have hle5 : (o ++ [p2]).length ≤ o.length + 1 := by omega
            rw [hl5]
            clear hl5
            generalize o ++ [p2] = o5 at *
            have own5 := own5.out
            have OW := hid own5
            have Hfin : Hid (o' = o5) := Hot
            have Hka := hid hka
            have Hkb := hid hkb
            clear hka hkb
            go_wp2
            go_roundw
            case rel => exact ⟨k + 1, cp5, ao5, by omega, by go_num, by rw [Hs'.out, em], by rw [Ho'.out, Hfin.out], by rw [Ho'.out, Hfin.out]; exact OW.out, B5⟩
            case measure => simp [intOf]; omega
        · cases hkb : kb r k
          · have Hot : Hid (o' = o ++ [p1]) := by
              show _ = _
              have h := Hot.out
              rw [hka, hkb] at h
              simpa using h
            have b1 := below_alloc W3 (.cells #[.int .u8 (p1 : Int)] 5)
            have hrd := rd_lit25 W3 p1
            go_wp2_with (at_builtin; refine hold ?_)
            unfold Hid
            refine wpList_append_rd rfl _ _ 25 rfl V.heap.size 5 i0 (.int .u8 0) 1 Try.underlying25 hi hz0 hz1 hz2 rfl ao o.length cp _ rfl (ownsRow_below ho3 b1) (some ⟨W3.heap.size, 0, none⟩) 1 1 (vb [p1]) rfl hrd (vb_oneCell _) (by omega) (by unfold maxLen; omega) (by have := hB3.size; simp; omega) ?_
            intro ao5 cp5 W5 own5 gr Bx
            rw [← vb_append] at own5
            have B5 := (hB3.alloc hB3.size _).trans Bx
            clear gr Bx b1 hrd
            have hl5 : o.length + 1 = (o ++ [p1]).length := by rw [List.length_append]; rfl
            have own5 : Hid (W5.ownsRow V.heap.size 5 1 (.slice ao5 (o ++ [p1]).length cp5) (o ++ [p1]).length (vb (o ++ [p1]))) := by rw [hl5] at own5; exact own5
            have hle5 : (o ++ [p1]).length ≤ o.length + 1 := by omega
            rw [hl5]
            clear hl5
            generalize o ++ [p1] = o5 at *
            have own5 := own5.out
            have OW := hid own5
            have Hfin : Hid (o' = o5) := Hot
            have Hka := hid hka
            have Hkb := hid hkb
            clear hka hkb
            go_wp2
            go_roundw
            case rel => exact ⟨k + 1, cp5, ao5, by omega, by go_num, by rw [Hs'.out, em], by rw [Ho'.out, Hfin.out], by rw [Ho'.out, Hfin.out]; exact OW.out, B5⟩
            case measure => simp [intOf]; omega
          · have Hot : Hid (o' = o ++ [p1] ++ [p2]) := by
              show _ = _
              have h := Hot.out
              rw [hka, hkb] at h
              simpa using h
            have b1 := below_alloc W3 (.cells #[.int .u8 (p1 : Int)] 5)
            have hrd := rd_lit25 W3 p1
            go_wp2_with (at_builtin; refine hold ?_)
            unfold Hid
            refine wpList_append_rd rfl _ _ 25 rfl V.heap.size 5 i0 (.int .u8 0) 1 Try.underlying25 hi hz0 hz1 hz2 rfl ao o.length cp _ rfl (ownsRow_below ho3 b1) (some ⟨W3.heap.size, 0, none⟩) 1 1 (vb [p1]) rfl hrd (vb_oneCell _) (by omega) (by unfold maxLen; omega) (by have := hB3.size; simp; omega) ?_
            intro ao5 cp5 W5 own5 gr Bx
            rw [← vb_append] at own5
            have B5 := (hB3.alloc hB3.size _).trans Bx
            clear gr Bx b1 hrd
            have hl5 : o.length + 1 = (o ++ [p1]).length := by rw [List.length_append]; rfl
            have own5 : Hid (W5.ownsRow V.heap.size 5 1 (.slice ao5 (o ++ [p1]).length cp5) (o ++ [p1]).length (vb (o ++ [p1]))) := by rw [hl5] at own5; exact own5
            have hle5 : (o ++ [p1]).length ≤ o.length + 1 := by omega
            rw [hl5]
            clear hl5
            generalize o ++ [p1] = o5 at *
            have own5 := own5.out
            have b1 := below_alloc W5 (.cells #[.int .u8 (p2 : Int)] 5)
            have hrd := rd_lit25 W5 p2
            go_wp2_with (at_builtin; refine hold ?_)
            unfold Hid
            refine wpList_append_rd rfl _ _ 25 rfl V.heap.size 5 i0 (.int .u8 0) 1 Try.underlying25 hi hz0 hz1 hz2 rfl ao5 o5.length cp5 _ rfl (ownsRow_below own5 b1) (some ⟨W5.heap.size, 0, none⟩) 1 1 (vb [p2]) rfl hrd (vb_oneCell _) (by omega) (by unfold maxLen; omega) (by have := B5.size; simp; omega) ?_
            intro ao6 cp6 W6 own6 gr Bx
            rw [← vb_append] at own6
            have B6 := (B5.alloc B5.size _).trans Bx
            clear gr Bx b1 hrd
            have hl6 : o5.length + 1 = (o5 ++ [p2]).length := by rw [List.length_append]; rfl
            have own6 : Hid (W6.ownsRow V.heap.size 5 1 (.slice ao6 (o5 ++ [p2]).length cp6) (o5 ++ [p2]).length (vb (o5 ++ [p2]))) := by rw [hl6] at own6; exact own6
            have hle6 : (o5 ++ [p2]).length ≤ o5.length + 1 := by omega
            rw [hl6]
            clear hl6
            generalize o5 ++ [p2] = o6 at *
            have own6 := own6.out
            have OW := hid own6
            have Hfin : Hid (o' = o6) := Hot
            have Hka := hid hka
            have Hkb := hid hkb
            clear hka hkb
            go_wp2
            go_roundw
            case rel => exact ⟨k + 1, cp6, ao6, by omega, by go_num, by rw [Hs'.out, em], by rw [Ho'.out, Hfin.out], by rw [Ho'.out, Hfin.out]; exact OW.out, B6⟩
            case measure => simp [intOf]; omega
    · obtain rfl : k = n + 6 := by omega
      go_wp2
      go_ret2
      exact ⟨ao, cp, rfl, ownsRow_mono ho BV.size, BV.trans (hB.mono BV.size)⟩
end Go.Proofs.Ytaedanklpedmkaa
