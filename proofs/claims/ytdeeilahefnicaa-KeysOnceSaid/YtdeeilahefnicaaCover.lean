/- Keys: cover. -/
import Derived.Test.YtdeeilahefnicaaCoverP
import Derived.Test.YtdeeilahefnicaaAppendAt
import Derived.Laws.MakeOwn
namespace Go.Proofs.Ytdeeilahefnicaa
set_option linter.unusedVariables false
open Go.RowKit Go.Shelf
attribute [local go_sem] Oper.semAt_some

theorem run_mk0 (m : Nat) (hm : m ≤ 1000) (u : World) : (Instr.makeSlice 22 (.int .i64 0) (.int .i64 (m : Int))).run Try.prog u =
    .ok (.slice (some ⟨u.heap.size, 0, none⟩) 0 m) (u.alloc (.cells (madeCells #[.int .u8 0] m) 5)) := by
  obtain ⟨i0, hi, hz0, hz1, hz2⟩ := info_parts Try.info5
  have h := run_make (P := Try.prog) u 22 5 i0 (.int .u8 0) Try.underlying22 hi hz0 .i64 .i64 0 (m : Int) (by omega) (by omega) (by rw [hz2]; omega) (by omega)
  simpa [hz1, Value.cells] using h
theorem made_own0 (m : Nat) (hm : m ≤ 1000) (u : World) : (u.alloc (.cells (madeCells #[.int .u8 0] m) 5)).ownsRow u.heap.size 5 1 (.slice (some ⟨u.heap.size, 0, none⟩) 0 m) 0 [] :=
  World.ownsRow_made u _ m (Nat.le_refl _) (by unfold maxLen; omega) (by rw [size_madeCells, Nat.mul_one])

/-- the boxes that the rounds leave alone, or count in -/
structure CvB (s : Nat) (wa : Option Addr) (wc c ix : Nat) (ua : Option Addr) (un uc : Nat) (W : World) : Prop where
  b0 : Boxed W s 23 (.slice wa 8 wc)
  b1 : Boxed W (s + 1) 3 (.int .i64 (c : Int))
  b4 : Boxed W (s + 1 + 1 + 1 + 1) 3 (.int .i64 (ix : Int))
  b5 : Boxed W (s + 1 + 1 + 1 + 1 + 1) 22 (.slice ua un uc)
  b6 : Boxed W (s + 1 + 1 + 1 + 1 + 1 + 1) 3 (.int .i64 64)
section
variable {s : Nat} {wa : Option Addr} {wc c ix : Nat} {ua : Option Addr} {un uc : Nat} {A B : World}
theorem CvB.below (h : CvB s wa wc c ix ua un uc A) (hb : Below A.heap.size A B) : CvB s wa wc c ix ua un uc B := ⟨Boxed.below h.b0 hb, Boxed.below h.b1 hb, Boxed.below h.b4 hb, Boxed.below h.b5 hb, Boxed.below h.b6 hb⟩
theorem CvB.row (h : CvB s wa wc c ix ua un uc A) {base size n : Nat} {v : Value} {xs : List Value} (ho : A.ownsRow base 5 size v n xs) (hg : A.grownBy B v.ownBlock) : CvB s wa wc c ix ua un uc B :=
  ⟨h.b0.kept hg (h.b0.not_row (by decide) ho), h.b1.kept hg (h.b1.not_row (by decide) ho), h.b4.kept hg (h.b4.not_row (by decide) ho), h.b5.kept hg (h.b5.not_row (by decide) ho), h.b6.kept hg (h.b6.not_row (by decide) ho)⟩
theorem CvB.other (h : CvB s wa wc c ix ua un uc A) (hg : A.grownBy B (some (s + 1 + 1 + 1))) : CvB s wa wc c ix ua un uc B :=
  ⟨h.b0.kept hg (sne (by omega)), h.b1.kept hg (sne (by omega)), h.b4.kept hg (sne (by omega)), h.b5.kept hg (sne (by omega)), h.b6.kept hg (sne (by omega))⟩
theorem CvB.count (h : CvB s wa wc c ix ua un uc A) (k : Nat) (hB : A.setCell ⟨s + 1 + 1 + 1 + 1, 0, none⟩ (.int .i64 (k : Int)) = B) : CvB s wa wc c k ua un uc B := by
  have hg : A.grownBy B (some (s + 1 + 1 + 1 + 1)) := by rw [← hB]; exact grownBy_setCell' A _ _
  exact ⟨h.b0.kept hg (sne (by omega)), h.b1.kept hg (sne (by omega)), by rw [← hB]; exact h.b4.set _, h.b5.kept hg (sne (by omega)), h.b6.kept hg (sne (by omega))⟩
end
/-- what the rounds have made so far -/
def CvJ (s : Nat) (wa : Option Addr) (wc c : Nat) (ua : Option Addr) (un uc n : Nat) (o : List Nat) (W : World) : Prop :=
  CvB s wa wc c (1 + n) ua un uc W ∧ ∃ oa oc, Boxed W (s + 1 + 1 + 1) 22 (.slice oa o.length oc) ∧ W.ownsRow s 5 1 (.slice oa o.length oc) o.length (vb o)
theorem cvOwn (s : Nat) (wa : Option Addr) (wc c : Nat) (ua : Option Addr) (un uc n : Nat) (o : List Nat) (A B : World) (row : Option Nat) (h : CvJ s wa wc c ua un uc n o A) (hg : A.grownBy B row) (hr : ∀ r, row = some r → ∃ o : Obj, A.heap[r]? = some o ∧ o.isCells = false) : CvJ s wa wc c ua un uc n o B := by
  have key : ∀ {b : Nat} {t : TypeId} {x : Value}, Boxed A b t x → Boxed B b t x := fun {b t x} h => h.kept hg (fun e' => by
    obtain ⟨o, ho, hc⟩ := hr b e'.symm
    rw [show A.heap[b]? = _ from h] at ho; cases ho; cases hc)
  obtain ⟨h1, oa, oc, h4, h5⟩ := h
  exact ⟨⟨key h1.b0, key h1.b1, key h1.b4, key h1.b5, key h1.b6⟩, oa, oc, key h4, ownsRow_keeps h5 hg hr⟩

set_option maxRecDepth 100000 in
set_option maxHeartbeats 4000000 in
theorem cover_ok (wa : Option Addr) (wc : Nat) (ws : List Int) (c : Nat) (ua : Option Addr) (ub uo un uc : Nat) (bs : List Nat) (w : World) (hW : Rd w wa 8 wc (vz ws)) (hws : Words ws) (hc : c < 281474976710656) (hua : 0 < un → ua = some ⟨ub, uo, none⟩) (hu : Rd w ua un uc (vb bs)) (hb : AllB bs) (hun : un ≤ 1000) :
    Calls Try.prog 12 #[.slice wa 8 wc, .int .i64 (c : Int), .slice ua un uc] w fun e w' => ∃ oa oc, e = .returned (.slice oa un oc) ∧ w'.ownsRow w.heap.size 5 1 (.slice oa un oc) un (vb (Cv ws c bs)) ∧ Below w.heap.size w w' := by
  obtain ⟨i0, hi0, hz0, hz1, hz2⟩ := info_parts Try.info5
  have km := fun u => run_mk0 un hun u
  refine (callsIn_wide (n := 8)).1 ?_
  have hro : Fence.wide.round = none := rfl
  have h1 : 1 ≤ 8 := by decide
  refine callsIn_of_wp_marks Try.func12 rfl trivial ?_ hro
  simp only [Try.ntmps12, List.size_toArray, List.length_cons, List.length_nil, Nat.reduceAdd, Nat.reduceSub, Array.replicate_succ, Array.replicate_zero, List.push_toArray, List.append_toArray, List.nil_append, List.cons_append]
  refine wpIn_wide.2 ?_
  go_wp2_with fail
  refine ((callsIn_wide (n := 8)).1 (chunk22 8 _ _ _ 64 _ (by decide) (by decide))).mono ?_
  rintro e w' ⟨rfl, rfl⟩
  go_wp2_with fail
  obtain ⟨V, hV⟩ : ∃ V, V = ((((((w.alloc (.cells #[.slice wa 8 wc] 23)).alloc (.cells #[.int .i64 (c : Int)] 3)).alloc (.cells (madeCells #[.int .u8 0] un) 5)).alloc (.cells #[.slice (some ⟨w.heap.size + 1 + 1, 0, none⟩) 0 un] 22)).alloc (.cells #[.int .i64 1] 3)).alloc (.cells #[.slice ua un uc] 22)).alloc (.cells #[.int .i64 64] 3) := ⟨_, rfl⟩
  have bx0 := (((((Boxed.new w 23 (.slice wa 8 wc)).alloc (.cells #[.int .i64 (c : Int)] 3)).alloc (.cells (madeCells #[.int .u8 0] un) 5)).alloc (.cells #[.slice (some ⟨w.heap.size + 1 + 1, 0, none⟩) 0 un] 22)).alloc (.cells #[.int .i64 1] 3)).alloc (.cells #[.slice ua un uc] 22) |>.alloc (.cells #[.int .i64 64] 3)
  have bx1 := ((((Boxed.new (w.alloc (.cells #[.slice wa 8 wc] 23)) 3 (.int .i64 (c : Int))).alloc (.cells (madeCells #[.int .u8 0] un) 5)).alloc (.cells #[.slice (some ⟨w.heap.size + 1 + 1, 0, none⟩) 0 un] 22)).alloc (.cells #[.int .i64 1] 3)).alloc (.cells #[.slice ua un uc] 22) |>.alloc (.cells #[.int .i64 64] 3)
  have oR := made_own0 un hun ((w.alloc (.cells #[.slice wa 8 wc] 23)).alloc (.cells #[.int .i64 (c : Int)] 3))
  have bx3 := ((Boxed.new (((w.alloc (.cells #[.slice wa 8 wc] 23)).alloc (.cells #[.int .i64 (c : Int)] 3)).alloc (.cells (madeCells #[.int .u8 0] un) 5)) 22 (.slice (some ⟨w.heap.size + 1 + 1, 0, none⟩) 0 un)).alloc (.cells #[.int .i64 1] 3)).alloc (.cells #[.slice ua un uc] 22) |>.alloc (.cells #[.int .i64 64] 3)
  have bx4 := (Boxed.new ((((w.alloc (.cells #[.slice wa 8 wc] 23)).alloc (.cells #[.int .i64 (c : Int)] 3)).alloc (.cells (madeCells #[.int .u8 0] un) 5)).alloc (.cells #[.slice (some ⟨w.heap.size + 1 + 1, 0, none⟩) 0 un] 22)) 3 (.int .i64 1)).alloc (.cells #[.slice ua un uc] 22) |>.alloc (.cells #[.int .i64 64] 3)
  have bx5 := (Boxed.new (((((w.alloc (.cells #[.slice wa 8 wc] 23)).alloc (.cells #[.int .i64 (c : Int)] 3)).alloc (.cells (madeCells #[.int .u8 0] un) 5)).alloc (.cells #[.slice (some ⟨w.heap.size + 1 + 1, 0, none⟩) 0 un] 22)).alloc (.cells #[.int .i64 1] 3)) 22 (.slice ua un uc)).alloc (.cells #[.int .i64 64] 3)
  have bx6 := Boxed.new ((((((w.alloc (.cells #[.slice wa 8 wc] 23)).alloc (.cells #[.int .i64 (c : Int)] 3)).alloc (.cells (madeCells #[.int .u8 0] un) 5)).alloc (.cells #[.slice (some ⟨w.heap.size + 1 + 1, 0, none⟩) 0 un] 22)).alloc (.cells #[.int .i64 1] 3)).alloc (.cells #[.slice ua un uc] 22)) 3 (.int .i64 64)
  have oR := ownsRow_below (ownsRow_below (ownsRow_below (ownsRow_below oR (below_alloc _ (.cells #[.slice (some ⟨w.heap.size + 1 + 1, 0, none⟩) 0 un] 22))) (below_alloc _ (.cells #[.int .i64 1] 3))) (below_alloc _ (.cells #[.slice ua un uc] 22))) (below_alloc _ (.cells #[.int .i64 64] 3))
  have hB0 : Below w.heap.size w (((((((w.alloc (.cells #[.slice wa 8 wc] 23)).alloc (.cells #[.int .i64 (c : Int)] 3)).alloc (.cells (madeCells #[.int .u8 0] un) 5)).alloc (.cells #[.slice (some ⟨w.heap.size + 1 + 1, 0, none⟩) 0 un] 22)).alloc (.cells #[.int .i64 1] 3)).alloc (.cells #[.slice ua un uc] 22)).alloc (.cells #[.int .i64 64] 3)) := ((((((((Below.refl _ w).alloc (Nat.le_refl _) _).alloc (by simp) _).alloc (by simp; omega) _).alloc (by simp; omega) _).alloc (by simp; omega) _).alloc (by simp; omega) _).alloc (by simp; omega) _)
  simp only [World.size_alloc] at bx0 bx1 bx3 bx4 bx5 bx6 oR
  rw [← hV] at bx0 bx1 bx3 bx4 bx5 bx6 oR hB0 ⊢
  have oR := ownsRow_mono oR (show w.heap.size ≤ w.heap.size + 1 + 1 by omega)
  clear hV km
  refine (wpIn_wide (n := 8)).1 ?_
  have hl5 := bx5.lt
  have hl6 := bx6.lt
  have hul : bs.length = un := by have := hu.len; rwa [vb_len] at this
  refine wpIn_rangeFunc_ownG hro h1 (gf := 33) (lb := #[.pointer (some ⟨w.heap.size + 1 + 1 + 1 + 1 + 1, 0, none⟩), .pointer (some ⟨w.heap.size + 1 + 1 + 1 + 1 + 1 + 1, 0, none⟩)]) rfl trivial (enters_of Try.func33 (by kernel_rfl) rfl)
    (stops33 (8 - 1) (by omega) (w.heap.size + 1 + 1 + 1 + 1 + 1) (w.heap.size + 1 + 1 + 1 + 1 + 1 + 1) w.heap.size ub uo un uc 64 ua hua (by decide) (by omega) ⟨hu.le, hu.max⟩ V hl5 hl6 bx5.cell bx6.cell) (fun h k => h.trans k) (kc_b (by omega) hl5 hl6) (Below.refl _ _) (fun _ => rfl)
    (fun (pre : List (Ck (pieces un 64))) W' => CvJ w.heap.size wa wc c ua un uc pre.length (cvL ws c bs (pre.map (·.1))).2 W' ∧ Below w.heap.size w W')
    (fun _ _ _ => False)
    (OwnFrom.and (Own.from (fun s A B row hs hg hr => cvOwn w.heap.size wa wc c ua un uc s.length (cvL ws c bs (s.map (·.1))).2 A B row hs hg hr) _) (ownFrom_below (Nat.le_refl _) (by omega)))
    (fun _ _ _ _ _ hs _ _ => hs)
    ⟨⟨⟨bx0, bx1, bx4, bx5, bx6⟩, _, _, bx3, oR⟩, hB0⟩
    (fun p => { tmps := #[.slice wa 8 wc, .int .i64 (c : Int), .slice ua un uc, .pointer (some ⟨w.heap.size, 0, none⟩), .pointer (some ⟨w.heap.size + 1, 0, none⟩), undef, .slice none 0 0, .pointer (some ⟨w.heap.size + 1 + 1 + 1, 0, none⟩), .pointer (some ⟨w.heap.size + 1 + 1 + 1 + 1, 0, none⟩), .slice (some ⟨ub, uo + p.1 * 64, none⟩) (pl un 64 p.1) (pl un 64 p.1), undef, undef, undef, .slice ua un uc, .int .i64 (un : Int), .slice (some ⟨w.heap.size + 1 + 1, 0, none⟩) 0 un, .slice ua un uc, .func (.func 33) #[] #[.pointer (some ⟨w.heap.size + 1 + 1 + 1 + 1 + 1, 0, none⟩), .pointer (some ⟨w.heap.size + 1 + 1 + 1 + 1 + 1 + 1, 0, none⟩)], .slice (some ⟨ub, uo + p.1 * 64, none⟩) (pl un 64 p.1) (pl un 64 p.1), undef, undef, undef, undef, undef, undef, undef, undef, undef, undef, undef, undef, undef, undef, undef, undef, undef, undef, undef, undef, undef, undef, undef, undef], defers := [] }) ?assign ?body ?done ?stop
  case assign =>
    intro l p W K hK
    dsimp only [encCk]
    gi_wp2
    exact hK
  case body =>
    clear bx0 bx1 bx3 bx4 bx5 bx6 oR hB0
    rintro l pre p W ⟨⟨hC, oa, oc, hb3, own⟩, hB⟩ hlt
    obtain ⟨k, hk⟩ := p
    have hkm : k * 64 < un := (pieces_lt (by omega)).1 hk
    obtain rfl := hua (by omega)
    clear hua
    have hpl := ((hu.below hB).piece (m := 64) (k := k) hkm).2
    have hrd : Hid (∀ wr, Below w.heap.size w wr → ∀ j, j < pl un 64 k → wr.cell? ⟨ub, uo + k * 64 + j, none⟩ = some (.int .u8 (nth (piece bs 64 k) j : Nat))) := fun wr hB j hj => by
      obtain ⟨b', o', ha, _, hc⟩ := ((hu.below hB).piece (m := 64) (k := k) hkm).1.cell j hj
      cases ha; exact hc
    have hpn : pl un 64 k ≤ 64 := Nat.min_le_left _ _
    have hpb : AllB (piece bs 64 k) := (hb.drop _).take _
    have hpre : pre.length < 17 := by have : pieces un 64 ≤ 16 := by unfold pieces; omega
                                      omega
    have hol := cvL_le ws c bs (pre.map (·.1))
    rw [List.length_map] at hol
    obtain ⟨o, ho⟩ : ∃ o, o = (cvL ws c bs (pre.map (·.1))).2 := ⟨_, rfl⟩
    rw [← ho] at hb3 own hol
    have ho2 : Hid ((cvL ws c bs ((pre ++ [(⟨k, hk⟩ : Ck (pieces un 64))]).map (·.1))).2 = o ++ xorP (piece bs 64 k) (Bk ws c (1 + pre.length))) := by
      show _ = _
      rw [List.map_append, List.map_cons, List.map_nil, cvL_snoc, List.length_map, ← ho]
    clear ho
    obtain ⟨ix, hix⟩ : ∃ ix, ix = 1 + pre.length := ⟨_, rfl⟩
    rw [← hix] at hC ho2
    have hix2 : ix ≤ 20 := by omega
    have Hix := hid hix
    clear hix
    generalize piece bs 64 k = pc at *
    generalize uo + k * 64 = qk at *
    generalize pl un 64 k = pk at *
    have hpl := hid hpl
    obtain ⟨n, hn⟩ : ∃ n, n = o.length := ⟨_, rfl⟩
    rw [← hn] at hb3 own hol
    have Hn := hid hn
    have hol2 : n ≤ 1088 := by omega
    clear hn hol
    have q0 := hC.b0.cell
    have q1 := hC.b1.cell
    have q4 := hC.b4.cell
    dsimp only
    gi_wp2_with fail
    refine ⟨trivial, ?_⟩
    refine (CallsIn.inRound l (callsIn_wide.2 (block_ok wa wc ws c ix W (hW.below hB) hws hc (by omega)))).mono ?_
    rintro e W2 ⟨pa, pcap, rfl, oP, b2⟩
    have hwW : w.heap.size ≤ W.heap.size := hB.size
    have ko := keeps_below b2
    have kc := Kc.ofBelow (n₀ := w.heap.size) (B1 := w.heap.size + 1 + 1 + 1 + 1 + 1) (B2 := w.heap.size + 1 + 1 + 1 + 1 + 1 + 1) b2 hB.size
    have hC := hC.below b2
    have hb3 := Boxed.below hb3 b2
    have hap : (Value.slice oa n oc).ownBlock ≠ (Value.slice pa 64 pcap).ownBlock := by
      obtain ⟨pb, rfl⟩ := own_addr oP (by decide)
      intro h
      have h1 := own.lt pb h
      have h2 := oP.lt pb rfl
      omega
    have own := ownsRow_below own b2
    have hB := hB.trans (b2.mono hB.size)
    have oP := ownsRow_mono oP hwW
    clear b2
    have q4 := hC.b4.cell
    have f4 := hC.b4.frozen
    gi_wp2_with fail
    clear f4
    obtain ⟨W3, hW3⟩ : ∃ W3, W3 = W2.setCell ⟨w.heap.size + 1 + 1 + 1 + 1, 0, none⟩ (.int .i64 ((ix : Int) + 1)) := ⟨_, rfl⟩
    rw [← hW3]
    have g5 : W2.grownBy W3 (some (w.heap.size + 1 + 1 + 1 + 1)) := by rw [hW3]; exact grownBy_setCell' W2 _ _
    have own := own.kept g5 (own_ne own hC.b4 (by decide))
    have oP := oP.kept g5 (own_ne oP hC.b4 (by decide))
    have hubl := hu.block_lt (by omega) rfl
    have ko := ko.trans (KeepsOthers.of_grownBy g5 fun j o ej hj => by
      cases ej
      rw [show W2.heap[w.heap.size + 1 + 1 + 1 + 1]? = _ from hC.b4] at hj; cases hj; rfl)
    have hw2 : w.heap.size ≤ W2.heap.size := hB.size
    have kc := kc.trans (Kc.ofGrown g5 hw2 (fun r h => by cases h; omega))
    have hB := hB.grown g5 hB.size (fun r h => by cases h; omega)
    have hb3 := hb3.kept g5 (sne (by omega))
    have hC : CvB w.heap.size wa wc c (ix + 1) (some ⟨ub, uo, none⟩) un uc W3 := hC.count (ix + 1) hW3.symm
    clear q0 q1 q4 g5 hW3 hw2
    obtain ⟨pb, rfl⟩ := own_addr oP (by decide)
    have hbl : ub < W3.heap.size := by have := hB.size; omega
    have hpl2 : pc.length = pk := hpl.out
    obtain ⟨pad, hpad⟩ : ∃ pad, pad = Bk ws c ix := ⟨_, rfl⟩
    have padB : AllB pad := by rw [hpad]; exact Bk_b _ _ _
    have padL : pad.length = 64 := by rw [hpad]; exact Bk_len _ _ _
    rw [← hpad] at oP ho2
    clear hpad
    obtain ⟨X, hX⟩ : ∃ X, X = xorP pc pad := ⟨_, rfl⟩
    have Xl : X.length = pk := by rw [hX, xorP_len]; exact hpl2
    have hXs : Hid (∀ j, j < pk → X.take (j + 1) = X.take j ++ [nth pc j ^^^ nth pad j]) := fun j hj => by rw [hX]; exact xorP_take _ _ _ (by omega)
    rw [← hX] at ho2
    have HXl := hid Xl
    have Hpadl := hid padL
    clear hX Xl padL hpl2
    gi_loopw [27] (fun i wr => ∃ (j : Nat) (oa : Option Addr) (oc : Nat), i = .int .i64 (j : Int) ∧ j ≤ pk ∧ CvB w.heap.size wa wc c (ix + 1) (some ⟨ub, uo, none⟩) un uc wr ∧ Boxed wr (w.heap.size + 1 + 1 + 1) 22 (.slice oa (n + j) oc) ∧ wr.ownsRow w.heap.size 5 1 (.slice oa (n + j) oc) (n + j) (vb (o ++ X.take j)) ∧ wr.ownsRow w.heap.size 5 1 (.slice (some ⟨pb, 0, none⟩) 64 pcap) 64 (vb pad) ∧ (Value.slice oa (n + j) oc).ownBlock ≠ some pb ∧ Below w.heap.size w wr ∧ KeepsOthers W wr ∧ Kc w.heap.size (w.heap.size + 1 + 1 + 1 + 1 + 1) (w.heap.size + 1 + 1 + 1 + 1 + 1 + 1) W wr) (fun i _ => pk - (intOf i).toNat)
    case atStart => exact ⟨0, oa, oc, rfl, Nat.zero_le _, hC, hb3, by rw [List.take_zero, List.append_nil]; exact own, oP, hap, hB, ko, kc⟩
    case round =>
      clear hC hb3 own oP hap hB ko kc
      obtain ⟨j, oa, oc, rfl, hj, hC, hb3, own, oP, hap, hB, ko, kc⟩ := hrel
      by_cases hlt2 : j < pk
      · have t1 : (j : Int) < (pk : Int) := by omega
        have hxc := hrd.out wr hB j hlt2
        have hyl : (vb pad)[j]? = some (.int .u8 (nth pad j : Nat)) := vb_get _ _ (by have := Hpadl.out; omega)
        have hyc : wr.cell? ⟨pb, j, none⟩ = some (.int .u8 (nth pad j)) := by rw [oP.cellAt j (by omega), vb_get _ _ (by have := Hpadl.out; omega)]
        have hx := nth_lt hpb j
        have hy := nth_lt padB j
        have hst := hid (hXs.out j hlt2)
        generalize nth pc j = x at *
        generalize nth pad j = y at *
        have e1 := u8_xor_nat x y hx hy
        have ez : x ^^^ y < 256 := Nat.xor_lt_two_pow (n := 8) hx hy
        generalize x ^^^ y = z at *
        gi_wp2_with fail
        have t2 : (j : Int) < 64 := by omega
        have t3 : (0 : Int) ≤ (j : Int) := by omega
        refine wpIn_region_can 9 [7, 8] [0, 1, 2, 3, 4, 5, 6, 7, 8] (fun u u' => u.grownBy u' (Value.slice oa (n + j) oc).ownBlock) (fun _ => ⟨rfl, rfl, rfl, Nat.le_refl _, fun _ _ _ => rfl⟩) (fun _ _ _ h k => grownBy_trans h k) (by kernel_rfl) (by kernel_rfl) (by kernel_rfl) ?_
        have hb3 : Boxed wr.drew _ _ _ := hb3
        have oP : wr.drew.ownsRow _ _ _ _ _ _ := oP.drew
        have own : wr.drew.ownsRow _ _ _ _ _ _ := own.drew
        have hC := hC.below ((Below.refl _ wr).drew)
        have hB := hB.drew
        have ko := ko.trans (KeepsOthers.drew wr)
        have kc : Kc w.heap.size (w.heap.size + 1 + 1 + 1 + 1 + 1) (w.heap.size + 1 + 1 + 1 + 1 + 1 + 1) W wr.drew := kc.trans ⟨(Below.refl _ wr).drew, fun _ h => h, fun _ h => h⟩
        generalize wr.drew = V1 at *
        have n0 : ∀ w', V1.grownBy w' (Value.slice oa (n + j) oc).ownBlock → w'.cell? ⟨w.heap.size + 1 + 1 + 1, 0, none⟩ = some (.slice oa (n + j) oc) := fun w' hg => (hb3.kept hg (hb3.not_row (by decide) own)).cell
        have n1 : ∀ w', V1.grownBy w' (Value.slice oa (n + j) oc).ownBlock → w'.cell? ⟨pb, j, none⟩ = some (.int .u8 (y : Int)) := fun w' hg => by
          have h := (oP.kept hg (.inr (fun e => hap e.symm))).cellAt j (by omega)
          rw [h]; exact hyl
        simp only [List.map_cons, List.map_nil, List.contains_cons, List.contains_nil, List.getD_cons_zero, List.getD_cons_succ, Nat.reduceBEq, Bool.or_false, Bool.or_true]
        repeat (refine wpL_do rfl (fun w' hw' => (by go_simp; rfl)) ?_; simp only [Act.put, List.setIfInBounds_toArray, List.set_cons_succ, List.set_cons_zero])
        clear n0 n1
        refine wpL_call rfl (fun K hK => ?_)
        go_wp2_with fail
        refine hK _ _ (World.grownBy_alloc _ _ _) ?_
        clear hK K
        try simp only [Act.put, List.setIfInBounds_toArray, List.set_cons_succ, List.set_cons_zero]
        have b7 := below_alloc V1 (.cells #[.int .u8 (z : Int)] 5)
        have hC := hC.below b7
        have hb3 := Boxed.below hb3 b7
        have hsz7 := hB.size
        have own0 := own
        have oP0 := oP
        have own := ownsRow_below own b7
        have oP := ownsRow_below oP b7
        have hB := hB.trans (b7.mono hB.size)
        have ko := ko.trans (keeps_below b7)
        have kc := kc.trans (Kc.ofBelow b7 hsz7)
        have hne : (Value.slice oa (n + j) oc).ownBlock ≠ some V1.heap.size := fun e => by have := (own0.lt _ e).2; omega
        refine wpL_call rfl (fun K hK => ?_)
        refine wp_append_own_at (.tmp 32) (.tmp 39) 22 rfl w.heap.size 5 i0 _ 1 1 Try.underlying22 hi0 hz0 hz1 hz2 rfl (by decide) (.slice oa (n + j) oc) (n + j) (vb (o ++ X.take j)) rfl own ⟨V1.heap.size, 0, none⟩ 1 1 (vb [z]) rfl rfl (cell_one_new _ _ _) (vb_oneCell _) (by unfold maxLen; omega) (by omega) hB.size ?_
        intro v' W8 own8 g8 hat
        refine hK _ _ g8 ?_
        clear hK K
        try simp only [Act.put, List.setIfInBounds_toArray, List.set_cons_succ, List.set_cons_zero]
        obtain ⟨va', vc', rfl, _, hbase⟩ := own_slice own8
        rw [← vb_append, List.append_assoc, ← hst.out] at own8
        have hnr : ∀ r, (Value.slice oa (n + j) oc).ownBlock = some r → r ≠ w.heap.size + 1 + 1 + 1 + 1 + 1 ∧ r ≠ w.heap.size + 1 + 1 + 1 + 1 + 1 + 1 := fun r h =>
          ⟨fun e => hC.b5.not_row (by decide) own (by rw [h, e]), fun e => hC.b6.not_row (by decide) own (by rw [h, e])⟩
        have hC := hC.row own g8
        have hb3 := hb3.kept g8 (hb3.not_row (by decide) own)
        have hpV : pb < V1.heap.size := (oP0.lt pb rfl).2
        have hap8 : (Value.slice va' (n + j + 1) vc').ownBlock ≠ some pb := by
          rcases hat with h | h
          · rw [h]; exact hap
          · rw [h]; intro e; simp at e; omega
        have oP := oP.kept g8 (.inr (fun e => hap e.symm))
        have hsz8 := hB.size
        have hob : ∀ r, (Value.slice oa (n + j) oc).ownBlock = some r → w.heap.size ≤ r := fun r h => (own.lt r h).1
        have hB := hB.grown g8 hB.size (fun r h => hob r h)
        have ko := ko.trans (keeps_own own g8)
        have kc := kc.trans (Kc.ofGrown g8 hsz8 (fun r h => ⟨hob r h, hnr r h⟩))
        refine wpL_nil ?_
        have c3 := hb3.cell
        have f3 := hb3.frozen
        obtain ⟨W9, hW9⟩ : ∃ W9, W9 = W8.setCell ⟨w.heap.size + 1 + 1 + 1, 0, none⟩ (.slice va' (n + j + 1) vc') := ⟨_, rfl⟩
        have g9 : W8.grownBy W9 (some (w.heap.size + 1 + 1 + 1)) := by rw [hW9]; exact grownBy_setCell' W8 _ _
        have own9 := own8.kept g9 (own_ne own8 hb3 (by decide))
        have oP9 := oP.kept g9 (own_ne oP hb3 (by decide))
        have ko := ko.trans (KeepsOthers.of_grownBy g9 fun j o ej hj => by
          cases ej
          rw [show W8.heap[w.heap.size + 1 + 1 + 1]? = _ from hb3] at hj; cases hj; rfl)
        have kc := kc.trans (Kc.ofGrown g9 hB.size (fun r h => by cases h; omega))
        have hB := hB.grown g9 hB.size (fun r h => by cases h; omega)
        have hC := hC.other g9
        have hb3 : Boxed W9 (w.heap.size + 1 + 1 + 1) 22 (.slice va' (n + j + 1) vc') := by rw [hW9]; exact hb3.set _
        have hW9' := hW9.symm
        clear hW9 own8 g8 g9 hat oP0 own0 oP own hob hnr b7
        go_wp2_with fail
        clear c3 f3
        apply_assumption
        gi_wp2_with fail
        go_roundw
        case rel => exact ⟨j + 1, va', vc', by go_num, by omega, hC, hb3, own9, oP9, hap8, hB, ko, kc⟩
        case measure => simp [intOf]; omega
      · obtain rfl : j = pk := by omega
        gi_wp2_with fail
        refine ⟨ko.from _, kc, ⟨?_, ?_⟩, hB⟩
        · rw [List.length_append, List.length_singleton, ← Nat.add_assoc, ← Hix.out]; exact hC
        · have el : (o ++ X).length = n + j := by rw [List.length_append, ← Hn.out, HXl.out]
          rw [ho2.out, el]
          rw [List.take_of_length_le (by rw [HXl.out]; exact Nat.le_refl _)] at own
          exact ⟨oa, oc, hb3, own⟩
  case done =>
    rintro D ys W hD hys ⟨⟨hC, oa, oc, hb3, own⟩, hB⟩ hK
    have hys2 : ys.map (·.1) = List.range (pieces bs.length 64) := by rw [hul]; exact hys
    have hcv : (cvL ws c bs (ys.map (·.1))).2 = Cv ws c bs := by rw [hys2]; rfl
    rw [hcv, Cv_len, hul] at hb3 own
    have c3 := hb3.cell
    clear hcv hys2 hys
    go_wp2_with fail
    change LeavesInM Fence.wide 8 Try.prog Try.f12 _ _ [{ target := .collected D, args := #[] }] .returning W
    refine leaves_marks (B := w.heap.size) [{ target := .collected D, args := #[] }] W ⟨⟨D, rfl, by have := hB.size; omega, hK⟩, (fun _ h => by cases h), trivial⟩ (fun W' hb hk => ⟨_, results_tmp rfl _ _ _, oa, oc, rfl, ownsRow_cells own hk, hB.trans hb⟩)
  case stop =>
    rintro D c pre W _ _ h _
    exact h.elim
end Go.Proofs.Ytdeeilahefnicaa
