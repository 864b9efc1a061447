/- Stream: Bytes. -/
import Derived.Test.YtlbpmepifegeiaaRange
namespace Go.Proofs.Ytlbpmepifegeiaa
set_option linter.unusedVariables false
set_option linter.unusedSimpArgs false
open Go.RowKit Go.Shelf
attribute [local go_sem] Oper.semAt_some

theorem All1.piece {l : List Nat} (h : All1 l) (m k : Nat) : All1 (piece l m k) := (h.drop _).take _
/-- eight bits a byte -/
def byteL (bs : List Nat) (l : List Nat) : List Nat := l.map fun k => numB (piece bs 8 k)
def bytesOf (bs : List Nat) : List Nat := byteL bs (List.range (bs.length / 8))
theorem byteL_b {bs : List Nat} (h : All1 bs) (l : List Nat) : AllB (byteL bs l) := by
  intro x hx
  obtain ⟨k, _, rfl⟩ := List.mem_map.1 hx
  have h1 := numB_lt (piece bs 8 k) (h.piece 8 k)
  have h2 : (piece bs 8 k).length ≤ 8 := List.length_take_le _ _
  have h3 : (2 : Nat) ^ (piece bs 8 k).length ≤ 2 ^ 8 := Nat.pow_le_pow_right (by decide) h2
  have h4 : (2 : Nat) ^ 8 = 256 := by decide
  omega
theorem bytesOf_len (bs : List Nat) : (bytesOf bs).length = bs.length / 8 := by simp [bytesOf, byteL]
theorem bytesOf_b {bs : List Nat} (h : All1 bs) : AllB (bytesOf bs) := byteL_b h _
theorem or_bit8 (z b : Nat) (hb : b < 2) (hz : 2 * z + b < 256) : bits BinOp.or IntKind.u8 ((z : Int) * 2) (b : Int) = ((2 * z + b : Nat) : Int) := by
  have h := Nat.shiftLeft_add_eq_or_of_lt (show b < 2 ^ 1 from hb) z
  rw [Nat.shiftLeft_eq, show (2 : Nat) ^ 1 = 2 by decide] at h
  have h3 := u8_or_nat (z * 2) b (by omega) (by omega)
  rw [← h, Int.natCast_mul] at h3
  rw [show 2 * z + b = z * 2 + b by omega]
  exact h3

/-- what the rounds have made -/
structure ByJ (s : Nat) (ua : Option Addr) (un uc : Nat) (o : List Nat) (W : World) : Prop where
  b0 : Boxed W s 24 (.slice none 0 0)
  b1 : Boxed W (s + 1) 30 (.int .i64 0)
  b4 : Boxed W (s + 1 + 1 + 1 + 1) 24 (.slice ua un uc)
  b5 : Boxed W (s + 1 + 1 + 1 + 1 + 1) 3 (.int .i64 8)
  out : ∃ oa oc, Boxed W (s + 1 + 1 + 1) 24 (.slice oa o.length oc) ∧ W.ownsRow s 5 1 (.slice oa o.length oc) o.length (vb o)
theorem byOwn (s : Nat) (ua : Option Addr) (un uc : Nat) (o : List Nat) (A B : World) (row : Option Nat) (h : ByJ s ua un uc o A) (hg : A.grownBy B row) (hr : ∀ r, row = some r → ∃ o : Obj, A.heap[r]? = some o ∧ o.isCells = false) : ByJ s ua un uc o B := by
  have key : ∀ {b : Nat} {t : TypeId} {x : Value}, Boxed A b t x → Boxed B b t x := fun {b t x} h => h.kept hg (fun e' => by
    obtain ⟨o, ho, hc⟩ := hr b e'.symm
    rw [show A.heap[b]? = _ from h] at ho; cases ho; cases hc)
  obtain ⟨h0, h1, h4, h5, oa, oc, h6, h7⟩ := h
  exact ⟨key h0, key h1, key h4, key h5, oa, oc, key h6, ownsRow_keeps h7 hg hr⟩

set_option maxRecDepth 100000 in
set_option maxHeartbeats 4000000 in
theorem bytes_ok (ub uo m un uc : Nat) (bs : List Nat) (w : World) (hm : 8 * m = un) (h0m : 0 < m) (hu : Rd w (some ⟨ub, uo, none⟩) un uc (vb bs)) (h1 : All1 bs) (hun : un ≤ 20000) :
    Calls Try.prog 28 #[.slice (some ⟨ub, uo, none⟩) un uc] w fun e w' => ∃ oa oc, e = .returned (.tuple #[.slice oa m oc, .int .i64 0]) ∧ w'.ownsRow w.heap.size 5 1 (.slice oa m oc) m (vb (bytesOf bs)) ∧ Below w.heap.size w w' := by
  obtain ⟨i0, hi0, hz0, hz1, hz2⟩ := info_parts Try.info5
  have km := fun u => run_mk0 m (by omega) u
  have t1 : (un : Int) % 8 = 0 := by omega
  have t1' : (un : Int).tmod 8 = 0 := by rw [Int.tmod_eq_emod_of_nonneg (by omega)]; exact t1
  have t2 : (un : Int) / 8 = (m : Int) := by omega
  have t2' : (un : Int).tdiv 8 = (m : Int) := by rw [Int.tdiv_eq_ediv_of_nonneg (by omega)]; exact t2
  have hm2 : m ≤ 2500 := by omega
  have Hm := hid hm
  clear hm
  refine (callsIn_wide (n := 8)).1 ?_
  have hro : Fence.wide.round = none := rfl
  have h18 : 1 ≤ 8 := by decide
  refine callsIn_of_wp_marks Try.func28 rfl trivial ?_ hro
  simp only [Try.ntmps28, List.size_toArray, List.length_cons, List.length_nil, Nat.reduceAdd, Nat.reduceSub, Array.replicate_succ, Array.replicate_zero, List.push_toArray, List.append_toArray, List.nil_append, List.cons_append]
  refine wpIn_wide.2 ?_
  go_wp2_with fail
  refine ((callsIn_wide (n := 8)).1 (chunk30 8 _ _ _ 8 _ (by decide) (by decide))).mono ?_
  rintro e w' ⟨rfl, rfl⟩
  go_wp2_with fail
  clear t1 t1' t2 t2' km
  obtain ⟨V, hV⟩ : ∃ V, V = ((((((w.alloc (.cells #[.slice none 0 0] 24)).alloc (.cells #[.int .i64 0] 30)).alloc (.cells (madeCells #[.int .u8 0] m) 5)).alloc (.cells #[.slice (some ⟨w.heap.size + 1 + 1, 0, none⟩) 0 m] 24)).alloc (.cells #[.slice (some ⟨ub, uo, none⟩) un uc] 24)).alloc (.cells #[.int .i64 8] 3)) := ⟨_, rfl⟩
  have bx0 := ((((((((((Boxed.new w 24 (.slice none 0 0)).alloc (.cells #[.int .i64 0] 30))).alloc (.cells (madeCells #[.int .u8 0] m) 5))).alloc (.cells #[.slice (some ⟨w.heap.size + 1 + 1, 0, none⟩) 0 m] 24))).alloc (.cells #[.slice (some ⟨ub, uo, none⟩) un uc] 24))).alloc (.cells #[.int .i64 8] 3))
  have bx1 := ((((((((Boxed.new (w.alloc (.cells #[.slice none 0 0] 24)) 30 (.int .i64 0)).alloc (.cells (madeCells #[.int .u8 0] m) 5))).alloc (.cells #[.slice (some ⟨w.heap.size + 1 + 1, 0, none⟩) 0 m] 24))).alloc (.cells #[.slice (some ⟨ub, uo, none⟩) un uc] 24))).alloc (.cells #[.int .i64 8] 3))
  have oR := made_own0 m (by omega) ((w.alloc (.cells #[.slice none 0 0] 24)).alloc (.cells #[.int .i64 0] 30))
  have bx3 := ((((Boxed.new (((w.alloc (.cells #[.slice none 0 0] 24)).alloc (.cells #[.int .i64 0] 30)).alloc (.cells (madeCells #[.int .u8 0] m) 5)) 24 (.slice (some ⟨w.heap.size + 1 + 1, 0, none⟩) 0 m)).alloc (.cells #[.slice (some ⟨ub, uo, none⟩) un uc] 24))).alloc (.cells #[.int .i64 8] 3))
  have bx4 := ((Boxed.new ((((w.alloc (.cells #[.slice none 0 0] 24)).alloc (.cells #[.int .i64 0] 30)).alloc (.cells (madeCells #[.int .u8 0] m) 5)).alloc (.cells #[.slice (some ⟨w.heap.size + 1 + 1, 0, none⟩) 0 m] 24)) 24 (.slice (some ⟨ub, uo, none⟩) un uc)).alloc (.cells #[.int .i64 8] 3))
  have bx5 := Boxed.new (((((w.alloc (.cells #[.slice none 0 0] 24)).alloc (.cells #[.int .i64 0] 30)).alloc (.cells (madeCells #[.int .u8 0] m) 5)).alloc (.cells #[.slice (some ⟨w.heap.size + 1 + 1, 0, none⟩) 0 m] 24)).alloc (.cells #[.slice (some ⟨ub, uo, none⟩) un uc] 24)) 3 (.int .i64 8)
  have oR := ownsRow_below (ownsRow_below (ownsRow_below oR (below_alloc _ (.cells #[.slice (some ⟨w.heap.size + 1 + 1, 0, none⟩) 0 m] 24))) (below_alloc _ (.cells #[.slice (some ⟨ub, uo, none⟩) un uc] 24))) (below_alloc _ (.cells #[.int .i64 8] 3))
  have hB0 : Below w.heap.size w ((((((w.alloc (.cells #[.slice none 0 0] 24)).alloc (.cells #[.int .i64 0] 30)).alloc (.cells (madeCells #[.int .u8 0] m) 5)).alloc (.cells #[.slice (some ⟨w.heap.size + 1 + 1, 0, none⟩) 0 m] 24)).alloc (.cells #[.slice (some ⟨ub, uo, none⟩) un uc] 24)).alloc (.cells #[.int .i64 8] 3)) := (((((((Below.refl _ w).alloc (Nat.le_refl _) _).alloc (by simp) _).alloc (by simp; omega) _).alloc (by simp; omega) _).alloc (by simp; omega) _).alloc (by simp; omega) _)
  simp only [World.size_alloc] at bx0 bx1 bx3 bx4 bx5 oR
  rw [← hV] at bx0 bx1 bx3 bx4 bx5 oR hB0 ⊢
  have oR := ownsRow_mono oR (show w.heap.size ≤ w.heap.size + 1 + 1 by omega)
  clear hV
  refine (wpIn_wide (n := 8)).1 ?_
  have hl4 := bx4.lt
  have hl5 := bx5.lt
  have hul : bs.length = un := by have := hu.len; rwa [vb_len] at this
  refine wpIn_rangeFunc_ownG hro h18 (gf := 31) (lb := #[.pointer (some ⟨w.heap.size + 1 + 1 + 1 + 1, 0, none⟩), .pointer (some ⟨w.heap.size + 1 + 1 + 1 + 1 + 1, 0, none⟩)]) rfl trivial (enters_of Try.func31 (by kernel_rfl) rfl)
    (stops31 (8 - 1) (by omega) (w.heap.size + 1 + 1 + 1 + 1) (w.heap.size + 1 + 1 + 1 + 1 + 1) w.heap.size ub uo un uc 8 (some ⟨ub, uo, none⟩) (fun _ => rfl) (by decide) (by omega) ⟨hu.le, hu.max⟩ V hl4 hl5 bx4.cell bx5.cell) (fun h k => h.trans k) (kc_b (by omega) hl4 hl5) (Below.refl _ _) (fun _ => rfl)
    (fun (pre : List (Ck (pieces un 8))) W' => ByJ w.heap.size (some ⟨ub, uo, none⟩) un uc (byteL bs (pre.map (·.1))) W' ∧ Below w.heap.size w W')
    (fun _ _ _ => False)
    (OwnFrom.and (Own.from (fun s A B row hs hg hr => byOwn w.heap.size (some ⟨ub, uo, none⟩) un uc (byteL bs (s.map (·.1))) A B row hs hg hr) _) (ownFrom_below (Nat.le_refl _) (by omega)))
    (fun _ _ _ _ _ hs _ _ => hs)
    ⟨⟨bx0, bx1, bx4, bx5, _, _, bx3, oR⟩, hB0⟩
    (fun p => { tmps := #[.slice (some ⟨ub, uo, none⟩) un uc, undef, .pointer (some ⟨w.heap.size, 0, none⟩), .pointer (some ⟨w.heap.size + 1, 0, none⟩), .pointer (some ⟨w.heap.size + 1 + 1 + 1, 0, none⟩), .slice (some ⟨ub, uo + p.1 * 8, none⟩) (pl un 8 p.1) (pl un 8 p.1), undef, undef, undef, .slice (some ⟨ub, uo, none⟩) un uc, .int .i64 (un : Int), .int .i64 0, .bool false, .slice (some ⟨ub, uo, none⟩) un uc, .int .i64 (un : Int), .int .i64 (m : Int), .slice (some ⟨w.heap.size + 1 + 1, 0, none⟩) 0 m, .slice (some ⟨ub, uo, none⟩) un uc, .func (.func 31) #[] #[.pointer (some ⟨w.heap.size + 1 + 1 + 1 + 1, 0, none⟩), .pointer (some ⟨w.heap.size + 1 + 1 + 1 + 1 + 1, 0, none⟩)], .slice (some ⟨ub, uo + p.1 * 8, none⟩) (pl un 8 p.1) (pl un 8 p.1), undef, undef, undef, undef, undef, undef, undef, undef, undef, undef, undef, undef, undef, undef, undef, undef, undef, undef], defers := [] }) ?assign ?body ?done ?stop
  case assign =>
    intro l p W K hK
    dsimp only [encCk]
    gi_wp2
    exact hK
  case body =>
    clear bx0 bx1 bx3 bx4 bx5 oR hB0
    rintro l pre p W ⟨hJ, hB⟩ hlt
    obtain ⟨k, hk⟩ := p
    have hkm : k * 8 < un := (pieces_lt (by omega)).1 hk
    have hrd0 := (hu.below hB).piece (m := 8) (k := k) hkm
    have hpk : pl un 8 k = 8 := by unfold pl; have := Hm.out; omega
    have hpl := hrd0.2
    have hrd : ∀ j, j < 8 → W.cell? ⟨ub, uo + k * 8 + j, none⟩ = some (.int .u8 (nth (piece bs 8 k) j : Nat)) := fun j hj => by
      obtain ⟨b', o', ha, _, hc⟩ := hrd0.1.cell j (by omega)
      cases ha; exact hc
    have hp1 := h1.piece 8 k
    have hpre : pre.length < 2501 := by
      have h2 : pieces un 8 ≤ 2500 := by unfold pieces; omega
      omega
    have ho2 : Hid (byteL bs ((pre ++ [(⟨k, hk⟩ : Ck (pieces un 8))]).map (·.1)) = byteL bs (pre.map (·.1)) ++ [numB (piece bs 8 k)]) := by
      show _ = _
      simp [byteL]
    have hol : (byteL bs (pre.map (·.1))).length = pre.length := by simp [byteL]
    rw [hpk] at hpl
    obtain ⟨o, ho⟩ : ∃ o, o = byteL bs (pre.map (·.1)) := ⟨_, rfl⟩
    rw [← ho] at hJ ho2 hol
    have Hol := hid hol
    have hol2 : o.length ≤ 2501 := by omega
    clear ho hrd0 hol
    dsimp only
    rw [hpk]
    clear hpk
    generalize piece bs 8 k = x at *
    generalize uo + k * 8 = qk at *
    have Hxl := hid hpl
    have HR := hid hrd
    clear hpl hrd
    gi_wp2_with fail
    gi_loop [6, 22] (fun z i => ∃ j : Nat, i = .int .i64 (j : Int) ∧ j ≤ 8 ∧ z = .int .u8 (numB (x.take j) : Nat)) (fun _ i => 8 - (intOf i).toNat)
    case atStart => exact ⟨0, rfl, by decide, rfl⟩
    case round =>
      obtain ⟨j, rfl, hj, rfl⟩ := hrel
      by_cases hlt2 : j < 8
      · have t1 : (j : Int) < 8 := by omega
        have hcell := HR.out j hlt2
        have hb := hp1.nth j
        have hlt3 := numB_lt (x.take (j + 1)) (hp1.take _)
        have hl2 : (x.take (j + 1)).length = j + 1 := by rw [List.length_take, Hxl.out]; omega
        rw [hl2] at hlt3
        have hp : (2 : Nat) ^ (j + 1) ≤ 2 ^ 8 := Nat.pow_le_pow_right (by decide) (by omega)
        have hsn : x.take (j + 1) = x.take j ++ [nth x j] := take_snocN _ _ (by rw [Hxl.out]; exact hlt2)
        have hnb : numB (x.take (j + 1)) = 2 * numB (x.take j) + nth x j := by rw [hsn, numB_snoc]
        have hp2 : (2 : Nat) ^ 8 = 256 := by decide
        have hbound : 2 * numB (x.take j) + nth x j < 256 := by omega
        have e9 := or_bit8 (numB (x.take j)) (nth x j) hb hbound
        have HN := hid hnb
        clear hnb hsn hlt3 hl2 hp hp2
        generalize numB (x.take j) = z at *
        generalize nth x j = y at *
        have e10 : IntKind.u8.wrap ((z : Int) * 2) = (z : Int) * 2 := by rw [IntKind.wrap_u8]; omega
        have e10' : (z : Int) * 2 % 256 = (z : Int) * 2 := by omega
        have t2 : ¬ (1 : Int) < (y : Int) := by omega
        gi_wp2_with fail
        go_round
        case rel => exact ⟨j + 1, by go_num, by omega, by rw [HN.out]; go_num⟩
        case measure => simp [intOf]; omega
      · obtain rfl : j = 8 := by omega
        rw [List.take_of_length_le (by rw [Hxl.out]; exact Nat.le_refl _)]
        try rw [show ((8 : Nat) : Int) = 8 from rfl]
        have hz := numB_lt x hp1
        rw [Hxl.out] at hz
        have hz : numB x < 256 := hz
        generalize numB x = z at *
        obtain ⟨hb0, hb1, hb4, hb5, oa, oc, hb3, own⟩ := hJ
        have q3 := hb3.cell
        have f3 := hb3.frozen
        gi_wp2_with (gi_at_builtin; refine hold ?_)
        unfold Hid
        have b7 := below_alloc W (.cells #[.int .u8 (z : Int)] 5)
        have o7 := ownsRow_below own b7
        refine wpListIn_append_own _ rfl _ _ 24 rfl w.heap.size 5 i0 _ 1 1 Try.underlying24 hi0 hz0 hz1 hz2 rfl (by decide) (.slice oa o.length oc) o.length (vb o) rfl o7 ⟨W.heap.size, 0, none⟩ 1 1 (vb [z]) rfl rfl (one_new _ _ _) (vb_oneCell _) (by unfold maxLen; omega) (by omega) (Nat.le_trans hB.size b7.size) ?_
        intro v' W8 own8 g8 _
        obtain ⟨va', vc', rfl, _, hbase⟩ := own_slice own8
        rw [← vb_append] at own8
        have ko := (keeps_below b7).trans (keeps_own o7 g8)
        have hbase0 : ∀ r, (Value.slice oa o.length oc).ownBlock = some r → w.heap.size ≤ r := fun r h => (own.lt r h).1
        have hb0 := (Boxed.below hb0 b7)
        have hb1 := (Boxed.below hb1 b7)
        have hb3 := (Boxed.below hb3 b7)
        have hb4 := (Boxed.below hb4 b7)
        have hb5 := (Boxed.below hb5 b7)
        have hws : w.heap.size ≤ W.heap.size := hB.size
        have hB7 := hB.trans (b7.mono hB.size)
        have kc := (Kc.ofBelow (n₀ := w.heap.size) (B1 := w.heap.size + 1 + 1 + 1 + 1) (B2 := w.heap.size + 1 + 1 + 1 + 1 + 1) b7 hws).trans (Kc.ofGrown g8 hB7.size (fun r h => ⟨hbase0 r h, fun e => hb4.not_row (by decide) o7 (by rw [h, e]), fun e => hb5.not_row (by decide) o7 (by rw [h, e])⟩))
        have hB8 := hB7.grown g8 hB7.size (fun r h => hbase0 r h)
        have hb0 := hb0.kept g8 (hb0.not_row (by decide) o7)
        have hb1 := hb1.kept g8 (hb1.not_row (by decide) o7)
        have hb3 := hb3.kept g8 (hb3.not_row (by decide) o7)
        have hb4 := hb4.kept g8 (hb4.not_row (by decide) o7)
        have hb5 := hb5.kept g8 (hb5.not_row (by decide) o7)
        have c3 := hb3.cell
        have f3 := hb3.frozen
        obtain ⟨W9, hW9⟩ : ∃ W9, W9 = W8.setCell ⟨w.heap.size + 1 + 1 + 1, 0, none⟩ (.slice va' (o.length + 1) vc') := ⟨_, rfl⟩
        have g9 : W8.grownBy W9 (some (w.heap.size + 1 + 1 + 1)) := by rw [hW9]; exact grownBy_setCell' W8 _ _
        have own9 := own8.kept g9 (own_ne own8 hb3 (by decide))
        have ko := ko.trans (KeepsOthers.of_grownBy g9 fun j o ej hj => by
          cases ej
          rw [show W8.heap[w.heap.size + 1 + 1 + 1]? = _ from hb3] at hj; cases hj; rfl)
        have kc := kc.trans (Kc.ofGrown g9 hB8.size (fun r h => by cases h; omega))
        have hB9 := hB8.grown g9 hB8.size (fun r h => by cases h; omega)
        have hb0 := hb0.kept g9 (sne (by omega))
        have hb1 := hb1.kept g9 (sne (by omega))
        have hb4 := hb4.kept g9 (sne (by omega))
        have hb5 := hb5.kept g9 (sne (by omega))
        have hb3 : Boxed W9 (w.heap.size + 1 + 1 + 1) 24 (.slice va' (o.length + 1) vc') := by rw [hW9]; exact hb3.set _
        have hW9' := hW9.symm
        clear hW9 own8 g8 g9 q3 b7 o7 hB hB7 hB8 own hbase0
        gi_wp2_with fail
        refine ⟨ko.from _, kc, ⟨hb0, hb1, hb4, hb5, ?_⟩, hB9⟩
        have el : (byteL bs ((pre ++ [(⟨k, hk⟩ : Ck (pieces un 8))]).map (·.1))).length = o.length + 1 := by rw [ho2.out, List.length_append]; rfl
        rw [el, ho2.out]
        exact ⟨va', vc', hb3, own9⟩
  case done =>
    rintro D ys W hD hys ⟨⟨hb0, hb1, hb4, hb5, oa, oc, hb3, own⟩, hB⟩ hK
    have hpm : pieces un 8 = m := by unfold pieces; have := Hm.out; omega
    have hys2 : ys.map (·.1) = List.range (bs.length / 8) := by
      have h2 : ys.map (·.1) = List.range (pieces un 8) := hys
      rw [h2, hpm, hul]
      congr 1
      have := Hm.out; omega
    have hcv : byteL bs (ys.map (·.1)) = bytesOf bs := by rw [hys2]; rfl
    have hbm : (bytesOf bs).length = m := by rw [bytesOf_len, hul]; have := Hm.out; omega
    rw [hcv, hbm] at hb3 own
    have c3 := hb3.cell
    have f0 := hb0.frozen
    have f1 := hb1.frozen
    have c0 := hb0.cell
    have c1 := hb1.cell
    clear hcv hys2 hys hbm hpm
    have hDs : D ≠ w.heap.size := fun e => by
      rw [e] at hK
      rw [show W.heap[w.heap.size]? = _ from hb0] at hK; cases hK
    have hDs1 : D ≠ w.heap.size + 1 := fun e => by
      rw [e] at hK
      rw [show W.heap[w.heap.size + 1]? = _ from hb1] at hK; cases hK
    obtain ⟨W1, hW1⟩ : ∃ W1, W1 = W.setCell ⟨w.heap.size, 0, none⟩ (.slice oa m oc) := ⟨_, rfl⟩
    have g1 : W.grownBy W1 (some w.heap.size) := by rw [hW1]; exact grownBy_setCell' W _ _
    have b01 : Boxed W1 w.heap.size 24 (.slice oa m oc) := by rw [hW1]; exact hb0.set _
    have b11 := hb1.kept g1 (sne (by omega))
    have own1 := own.kept g1 (own_ne own hb0 (by decide))
    have hB1 := hB.grown g1 hB.size (fun r h => by cases h; exact Nat.le_refl _)
    have hK1 : W1.heap[D]? = some (.deferred (some [])) := (g1.block D (Array.getElem?_eq_some_iff.1 hK).1 (fun e => hDs (by cases e; rfl))).trans hK
    have c11 := b11.cell
    have f11 := b11.frozen
    obtain ⟨W2, hW2⟩ : ∃ W2, W2 = W1.setCell ⟨w.heap.size + 1, 0, none⟩ (.int .i64 0) := ⟨_, rfl⟩
    have g2 : W1.grownBy W2 (some (w.heap.size + 1)) := by rw [hW2]; exact grownBy_setCell' W1 _ _
    have b12 : Boxed W2 (w.heap.size + 1) 30 (.int .i64 0) := by rw [hW2]; exact b11.set _
    have b02 := b01.kept g2 (sne (by omega))
    have own2 := own1.kept g2 (own_ne own1 b11 (by decide))
    have hB2 := hB1.grown g2 hB1.size (fun r h => by cases h; omega)
    have hK2 : W2.heap[D]? = some (.deferred (some [])) := (g2.block D (Array.getElem?_eq_some_iff.1 hK1).1 (fun e => hDs1 (by cases e; rfl))).trans hK1
    have hW1' := hW1.symm
    have hW2' := hW2.symm
    clear hW1 hW2 g1 g2 own own1 hB hB1 hK hK1
    go_wp2_with fail
    change LeavesInM Fence.wide 8 Try.prog Try.f28 _ _ [{ target := .collected D, args := #[] }] .returning W2
    refine leaves_marks (B := w.heap.size) [{ target := .collected D, args := #[] }] W2 ⟨⟨D, rfl, by have := hB2.size; omega, hK2⟩, (fun _ h => by cases h), trivial⟩ (fun W' hb hk => ?_)
    have y0 : W'.cell? ⟨w.heap.size, 0, none⟩ = some (.slice oa m oc) := Boxed.cell (hk _ _ b02 rfl)
    have y1 : W'.cell? ⟨w.heap.size + 1, 0, none⟩ = some (.int .i64 0) := Boxed.cell (hk _ _ b12 rfl)
    refine ⟨_, by simp only [results, Try.results28, go_sem]; simp [go_sem, y0, y1], oa, oc, rfl, ownsRow_cells own2 hk, hB2.trans hb⟩
  case stop =>
    rintro D c pre W _ _ h _
    exact h.elim
end Go.Proofs.Ytlbpmepifegeiaa
