/- deliver: the taker asks for what is missing: one span more, and all. -/
import Derived.Test.YtopmamgdfngdoaaWhole15
import Derived.Laws.CopyOwn
import Derived.WalkKit
namespace Go.Proofs.Ytopmamgdfngdoaa
set_option linter.unusedVariables false
open Go.RowKit

set_option maxRecDepth 1000000 in
set_option maxHeartbeats 8000000 in
theorem ask_more (B0 L x y n : Nat) (la : Option Addr) (lc : Nat) (acc : List Sp) (hn : n ≤ 200000) (hal : acc.length = n) :
    Tri Try.prog 76 (pieceOf Try.f25 [1, 1, 1, 0, 1, 0, 0, 1, 1, 0, 0, 1, 0, 1, 1, 0]) (fun z w => z 2 = .slice la n lc ∧ z 3 = .int .i64 (x : Int) ∧ z 6 = .int .i64 (y : Int) ∧ w.ownsRow B0 84 2 (.slice la n lc) n (spv acc) ∧ (Value.slice la n lc).ownBlock ≠ some L ∧ L < w.heap.size ∧ B0 ≤ w.heap.size)
      (fun z w z' w' => z' 0 = z 0 ∧ z' 5 = z 5 ∧ z' 36 = z 36 ∧ z' 37 = z 37 ∧ z' 38 = z 38 ∧ (∃ la' lc', z' 2 = .slice la' (n + 1) lc' ∧ w'.ownsRow B0 84 2 (.slice la' (n + 1) lc') (n + 1) (spv (acc ++ [(x, y)])) ∧ (Value.slice la' (n + 1) lc').ownBlock ≠ some L) ∧ w'.heap[L]? = w.heap[L]? ∧ Below B0 w w' ∧ ∀ P, P < w.heap.size → (Value.slice la n lc).ownBlock ≠ some P → w'.heap[P]? = w.heap[P]?) := by
  obtain ⟨i0, hi, hz0, hz1, hz2⟩ := info_parts Try.info84
  rintro Q z w ⟨s2, s3, s6, ho, hne, hL, hB0⟩ hQ
  have HQ := hid hQ
  clear hQ
  have bN := below_alloc w (.cells #[.int .i64 (x : Int), .int .i64 (y : Int)] 84)
  have ho2 := ownsRow_below ho bN
  have hnew : ∀ (j : Nat) (u : Value), ([.int .i64 (x : Int), .int .i64 (y : Int)] : List Value)[j]? = some u → (w.alloc (.cells #[.int .i64 (x : Int), .int .i64 (y : Int)] 84)).cell? ((⟨w.heap.size, 0, none⟩ : Addr).add j) = some u := new_cells w [.int .i64 (x : Int), .int .i64 (y : Int)] 84
  have hB1 : B0 ≤ (w.alloc (.cells #[.int .i64 (x : Int), .int .i64 (y : Int)] 84)).heap.size := Nat.le_trans hB0 bN.size
  have E1 : Hid (spv (acc ++ [(x, y)]) = spv acc ++ [.int .i64 (x : Int), .int .i64 (y : Int)]) := hid (spv_snoc _ _ _)
  generalize hxs : spv acc = xs at *
  clear hxs
  conv => arg 2; whnf
  rw [fr76]
  simp only [s2, s3, s6]
  clear s2 s3 s6
  have Hnew := hid hnew
  have Ho2 := hid ho2
  have HBN := hid bN
  clear hnew ho2 bN ho
  go_wp2_with (at_builtin; refine wpList_append_own_at _ rfl _ _ 26 rfl B0 84 i0 _ 2 16 Try.underlying26 hi hz0 hz1 hz2 rfl (by decide) (.slice la n lc) n xs rfl Ho2.out ⟨w.heap.size, 0, none⟩ 1 1 [.int .i64 (x : Int), .int .i64 (y : Int)] rfl rfl Hnew.out (by simp [Value.oneCell']) (by unfold maxLen; omega) (by omega) hB1 ?_)
  intro v' W3 own4 g4 hnl hat
  have b4 := (Below.refl B0 _).grown g4 hB1 (fun k hk => (Ho2.out.lt k hk).1)
  have HB := hid ((HBN.out.mono hB0).trans b4)
  have hLL := (g4.block L (Nat.lt_of_lt_of_le hL HBN.out.size) (fun e => hne e.symm)).trans (HBN.out.block L hL)
  have HLL := hid hLL
  have hPP : ∀ P, P < w.heap.size → (Value.slice la n lc).ownBlock ≠ some P → W3.heap[P]? = w.heap[P]? := fun P hP hPn => (g4.block P (Nat.lt_of_lt_of_le hP HBN.out.size) (fun e => hPn e.symm)).trans (HBN.out.block P hP)
  have HPP := hid hPP
  have hsz : (w.alloc (.cells #[.int .i64 (x : Int), .int .i64 (y : Int)] 84)).heap.size = w.heap.size + 1 := by simp
  have hvne : v'.ownBlock ≠ some L := by
    rcases hat with h | h
    · rw [h]; exact hne
    · rw [h]
      intro e
      injection e with e
      omega
  obtain ⟨va, vc, rfl, _, _⟩ := own_slice own4
  have HO := hid own4
  have HV := hid hvne
  clear own4 g4 hat hnl b4 hLL hPP hvne hsz Hnew Ho2 HBN
  go_wp2_with fail
  refine q_fr (N := 76) HQ.out rfl ⟨rfl, rfl, rfl, rfl, rfl, ⟨va, vc, rfl, ?_, HV.out⟩, HLL.out, HB.out, HPP.out⟩
  rw [E1.out]
  exact HO.out
theorem RdS.block {w w' : World} {L n c : Nat} {l : List Sp} (h : RdS w (some ⟨L, 0, none⟩) n c l) (hL : L < w.heap.size) (he : w'.heap[L]? = w.heap[L]?) : RdS w' (some ⟨L, 0, none⟩) n c l :=
  ⟨h.ln, h.le, h.max, h.isnil, fun hn => by
    obtain ⟨b, off, cs, ha, hr, hc⟩ := h.mem hn
    cases ha
    exact ⟨_, _, cs, rfl, he.trans hr, hc⟩⟩
def askI (D : DP) (W0 : World) (X L n c n0 : Nat) (kn0 l : List Sp) (y : Nat → Value) (W : World) : Prop :=
  ∃ (k : Nat) (la : Option Addr) (lc : Nat) (acc : List Sp), k ≤ n ∧ y 0 = .pointer (some ⟨X, 0, none⟩) ∧ y 36 = .slice (some ⟨L, 0, none⟩) n c ∧ y 37 = .int .i64 (n : Int) ∧ y 38 = .int .i64 (k : Int) ∧
    y 3 = .int .i64 ((List.foldl (gstep D.P.F) (0, kn0) (l.take k)).1 : Int) ∧ acc = (List.foldl (gstep D.P.F) (0, kn0) (l.take k)).2 ∧ y 2 = .slice la acc.length lc ∧ W.ownsRow W0.heap.size 84 2 (.slice la acc.length lc) acc.length (spv acc) ∧
    (Value.slice la acc.length lc).ownBlock ≠ some L ∧ L < W.heap.size ∧ RdS W (some ⟨L, 0, none⟩) n c l ∧ Below W0.heap.size W0 W
set_option maxRecDepth 1000000 in
set_option maxHeartbeats 8000000 in
theorem ask_loop (D : DP) (hD : DOk D) (W0 : World) (X L n c n0 : Nat) (kn0 l : List Sp) (hn : n ≤ 100001) (hk0 : kn0.length ≤ 1) (hl : ∀ s ∈ l, s.2 ≤ D.P.F + 1 ∧ s.1 ≤ D.P.F) :
    Tri Try.prog 76 (pieceOf Try.f25 [1, 1, 1, 0, 1]) (fun z w => askI D W0 X L n c n0 kn0 l z w ∧ z 38 = .int .i64 0 ∧ ∃ B A o t, TW D W0 X B t A o ∧ t.en = true)
      (fun z w z' w' => z' 0 = .pointer (some ⟨X, 0, none⟩) ∧ ∃ (la : Option Addr) (lc : Nat) (acc : List Sp), acc = (List.foldl (gstep D.P.F) (0, kn0) l).2 ∧ z' 2 = .slice la acc.length lc ∧ w'.ownsRow W0.heap.size 84 2 (.slice la acc.length lc) acc.length (spv acc) ∧ Below W0.heap.size W0 w') := by
  have hF := hD.P.F
  rintro Q z w ⟨hI, s38, B, A, o, t, hT, hen⟩ hQ
  have HQ := hid hQ
  have HI := hid hI
  have HT := hid hT
  have HLs := hid hl
  clear hQ hI s38 hT hl
  conv => arg 2; whnf
  refine wp_block ?_
  refine wp_loop_fr 76 (askI D W0 X L n c n0 kn0 l) (fun y' _ => n - (intOf (y' 38)).toNat) ⟨fr_size _ _, rfl, ?_⟩ ?_
  · obtain ⟨k, la, lc, acc, h1, h2, h3, h4, h5, h6, h7, h8, h9⟩ := HI.out
    exact ⟨k, la, lc, acc, h1, (fr_at 76 z 0 (by decide)).trans h2, (fr_at 76 z 36 (by decide)).trans h3, (fr_at 76 z 37 (by decide)).trans h4, (fr_at 76 z 38 (by decide)).trans h5, (fr_at 76 z 3 (by decide)).trans h6, h7, (fr_at 76 z 2 (by decide)).trans h8, h9⟩
  clear HI
  rintro z W ⟨k, la, lc, acc, hk, s0, s36, s37, s38, s3, hacc, s2, ho, hne, hL, hr, hB⟩
  have hal : acc.length ≤ n + 1 := by
    rw [hacc]
    refine Nat.le_trans (gstep_len _ _ _) ?_
    show kn0.length + _ ≤ _
    rw [List.length_take]
    omega
  have hx : (List.foldl (gstep D.P.F) (0, kn0) (l.take k)).1 ≤ D.P.F + 1 := by
    cases k with
    | zero => exact Nat.zero_le _
    | succ k' =>
      rw [List.take_add_one, List.foldl_append]
      cases hs : l[k']? with
      | none =>
        have := hr.ln
        rw [List.getElem?_eq_none_iff] at hs
        omega
      | some s => exact (HLs.out s (List.mem_of_getElem? hs)).1
  obtain ⟨x, hxx⟩ : ∃ x, x = (List.foldl (gstep D.P.F) (0, kn0) (l.take k)).1 := ⟨_, rfl⟩
  rw [← hxx] at s3 hx
  have HX := hid hxx
  have HAcc := hid hacc
  have HO := hid ho
  have HR := hid hr
  have HB := hid hB
  clear hxx hacc ho hr hB
  rw [fr76]
  simp only [s0, s36, s37, s38, s3, s2]
  clear s0 s36 s37 s38 s3 s2
  by_cases hlt : k < n
  · have d1 : decide ((k : Int) < (n : Int)) = true := decide_eq_true (by omega)
    have hkI : (k : Int) < (n : Int) := by omega
    have hk0' : (0 : Int) ≤ (k : Int) := by omega
    have hkt : ((k : Nat) : Int).toNat = k := rfl
    obtain ⟨b, off, s, hbb, hb, hs, c0, c1⟩ := HR.out.at_ k hlt
    cases hbb
    have hs12 := HLs.out s (List.mem_of_getElem? hs)
    have HSk := hid hs
    clear hs hb
    obtain ⟨sx, sy⟩ := s
    dsimp only at c0 c1 hs12
    rw [Nat.zero_add] at c0 c1
    go_upto_block 1 with (fail)
    refine wp_block ?_
    refine wp_seq_k (fun K3 hK3 => ?_)
    go_wp2_with fail
    refine hK3.out _ _ ?_
    have bW := below_alloc W (.cells #[.int .i64 (sx : Int), .int .i64 (sy : Int)] 84)
    have AN := hid (heap_alloc_new W (.cells #[.int .i64 (sx : Int), .int .i64 (sy : Int)] 84))
    have R2 := hid (HR.out.below bW)
    have O2 := hid (ownsRow_below HO.out bW)
    have B2 := hid (HB.out.trans (bW.mono HB.out.size))
    have T2 := hid (HT.out.below B2.out)
    have hPne : (Value.slice la acc.length lc).ownBlock ≠ some W.heap.size := fun e => by have := (HO.out.lt _ e).2; omega
    obtain ⟨P, hP⟩ : ∃ P, P = W.heap.size := ⟨_, rfl⟩
    have hL2 : L < (W.alloc (.cells #[.int .i64 (sx : Int), .int .i64 (sy : Int)] 84)).heap.size := Nat.lt_of_lt_of_le hL bW.size
    rw [← hP] at AN hPne ⊢
    clear bW HR HO HB hP c0 c1 hL
    generalize W.alloc (.cells #[.int .i64 (sx : Int), .int .i64 (sy : Int)] 84) = V at *
    have hB0V : W0.heap.size ≤ V.heap.size := B2.out.size
    have hPV : P < V.heap.size := row_lt AN.out
    refine wp_seq_k (fun K4 hK4 => ?_)
    refine wp_seq_k (fun K5 hK5 => ?_)
    have hms : Hid (min sx D.P.F = sx) := hid (Nat.min_eq_left hs12.2)
    have p0 : V.cell? ⟨P, 0, none⟩ = some (.int .i64 (sx : Int)) := by rw [cell_of_row _ _ _ _ _ _ AN.out]; rfl
    have x5 : V.cell? ⟨X, 5, none⟩ = some (.int .i64 (D.P.F : Int)) := by rw [cell_of_row _ _ _ _ _ _ T2.out.bx]; unfold twc; rw [hen]; rfl
    have D1 : (sx : Int) ≤ (D.P.F : Int) := by omega
    have D2 : ¬ (D.P.F : Int) < (sx : Int) := by omega
    refine wp_region_can 9 [] [0, 1, 2, 3, 4, 5, 6, 7, 8] (fun u u' => u' = u) (fun _ => rfl) (fun _ _ _ h k => k.trans h) (by kernel_rfl) (by kernel_rfl) ?_
    simp only [List.map_cons, List.map_nil, List.contains_nil, List.getD_cons_zero, List.getD_cons_succ]
    have hdr := (Below.refl V.heap.size V).drew
    have q0 : V.drew.cell? ⟨P, 0, none⟩ = some (.int .i64 (sx : Int)) := p0
    have q5 : V.drew.cell? ⟨X, 5, none⟩ = some (.int .i64 (D.P.F : Int)) := x5
    have p1 : V.drew.cell? ⟨P, 1, none⟩ = some (.int .i64 (sy : Int)) := by rw [cell_of_row _ _ _ _ _ _ (row_below AN.out hdr)]; rfl
    have AN3 := hid (row_below AN.out hdr)
    have R3 := hid (R2.out.below hdr)
    have O3 := hid (ownsRow_below O2.out hdr)
    have B3 := hid (B2.out.trans (hdr.mono hB0V))
    have hL3 : L < V.drew.heap.size := hL2
    have hP3 : P < V.drew.heap.size := hPV
    have hB03 : W0.heap.size ≤ V.drew.heap.size := hB0V
    clear hdr p0 x5 AN R2 O2 B2 T2 hL2 hPV hB0V
    generalize V.drew = U at *
    iterate 9 (refine wpL_do rfl (fun w' hw' => (by cases hw'; go_simp; rfl)) ?_; simp only [Act.put, List.setIfInBounds_toArray, List.set_cons_succ, List.set_cons_zero])
    refine wpL_nil ?_
    refine hK5.out _ _ ?_
    clear q0 q5 D1 D2
    have et : List.foldl (gstep D.P.F) (0, kn0) (l.take (k + 1)) = gstep D.P.F (x, acc) (sx, sy) := by
      rw [List.take_add_one, HSk.out, List.foldl_append]
      show gstep D.P.F (List.foldl (gstep D.P.F) (0, kn0) (l.take k)) (sx, sy) = _
      rw [HX.out, HAcc.out]
    have ET := hid et
    clear et
    refine wp_seq_k (fun K6 hK6 => ?_)
    by_cases hxm : x < sx
    · have d2 : decide ((x : Int) < (sx : Int)) = true := decide_eq_true (by omega)
      have hxmI : (x : Int) < (sx : Int) := by omega
      go_wp2_with fail
      refine hK6.out _ _ ?_
      refine wp_cond_true rfl ?_
      refine use_fr (N := 76) rfl ?_
      refine Tri.use (ask_more W0.heap.size L x sx acc.length la lc acc (by omega) rfl) rfl ⟨rfl, rfl, rfl, O3.out, hne, hL3, hB03⟩ ?_
      rintro y2 W2 ⟨e0, e5, e36, e37, e38, ⟨la', lc', e2, ho4, hne4⟩, hLL, hB4, hPP⟩
      have q0 : y2 0 = .pointer (some ⟨X, 0, none⟩) := e0
      have q5 : y2 5 = .pointer (some ⟨P, 0, none⟩) := e5
      have q36 : y2 36 = .slice (some ⟨L, 0, none⟩) n c := e36
      have q37 : y2 37 = .int .i64 (n : Int) := e37
      have q38 : y2 38 = .int .i64 (k : Int) := e38
      have p1' : W2.cell? ⟨P, 1, none⟩ = some (.int .i64 (sy : Int)) := by rw [cell_of_row _ _ _ _ _ _ ((hPP P hP3 hPne).trans AN3.out)]; rfl
      have hR4 : RdS W2 (some ⟨L, 0, none⟩) n c l := R3.out.block hL3 hLL
      have HR4 := hid hR4
      have HO4 := hid ho4
      have HB4 := hid (B3.out.trans hB4)
      have hL4 : L < W2.heap.size := by
        rcases Nat.lt_or_ge L W2.heap.size with h | h
        · exact h
        · rw [Array.getElem?_eq_none h, Array.getElem?_eq_getElem hL3] at hLL
          cases hLL
      clear p1 hPP hLL hR4 ho4 hB4 e0 e5 e36 e37 e38 R3 O3 B3 AN3
      rw [fr76]
      simp only [q0, q5, q36, q37, q38, e2]
      clear q0 q5 q36 q37 q38 e2
      go_wp2_with fail
      refine hK4.out _ _ ?_
      go_wp2_with fail
      refine ⟨rfl, rfl, ⟨k + 1, la', lc', acc ++ [(x, sx)], by omega, rfl, rfl, rfl, ?_, ?_, ?_, ?_, ?_, ?_, hL4, HR4.out, HB4.out⟩, ?_⟩
      · show Value.int .i64 _ = Value.int .i64 _
        go_num
      · rw [ET.out]
        rfl
      · rw [ET.out]
        unfold gstep
        dsimp only
        rw [hms.out, if_pos hxm]
      · rw [List.length_append]
        rfl
      · rw [List.length_append]
        exact HO4.out
      · rw [List.length_append]
        exact hne4
      · show n - (intOf (Value.int .i64 _)).toNat < _
        simp [intOf]
        omega
    · have d2 : decide ((x : Int) < (sx : Int)) = false := decide_eq_false (by omega)
      have hxmI : ¬ (x : Int) < (sx : Int) := by omega
      have hxmJ : (sx : Int) ≤ (x : Int) := by omega
      have hxmK : sx ≤ x := by omega
      go_wp2_with fail
      refine hK6.out _ _ ?_
      go_wp2_with fail
      refine hK4.out _ _ ?_
      go_wp2_with fail
      refine ⟨rfl, rfl, ⟨k + 1, la, lc, acc, by omega, rfl, rfl, rfl, ?_, ?_, ?_, rfl, O3.out, hne, hL3, R3.out, B3.out⟩, ?_⟩
      · show Value.int .i64 _ = Value.int .i64 _
        go_num
      · rw [ET.out]
        rfl
      · rw [ET.out]
        unfold gstep
        dsimp only
        rw [hms.out, if_neg hxm, List.append_nil]
      · show n - (intOf (Value.int .i64 _)).toNat < _
        simp [intOf]
        omega
  · obtain rfl : k = n := by omega
    have d1 : decide ((k : Int) < (k : Int)) = false := decide_eq_false (by omega)
    go_wp2_with fail
    have e : l.take k = l := List.take_of_length_le (by have := HR.out.ln; omega)
    have h1 := HAcc.out
    rw [e] at h1
    exact q_fr (N := 76) HQ.out rfl ⟨rfl, la, lc, acc, h1, rfl, HO.out, HB.out⟩
end Go.Proofs.Ytopmamgdfngdoaa
/- deliver: the taker asks for what is missing (walk 25). -/
namespace Go.Proofs.Ytopmamgdfngdoaa
set_option linter.unusedVariables false
open Go.RowKit

set_option maxRecDepth 100000 in
theorem run_cut26m (b off n c m : Nat) (hm : m ≤ n) (hc : n ≤ c) (w : World) : (Instr.sliceAt 26 (.slice (some ⟨b, off, none⟩) n c) none (some (.int .i64 (m : Int))) (some (.int .i64 (m : Int)))).run Try.prog w = .ok (.slice (some ⟨b, off, none⟩) m m) w := by
  have e1 : (0 : Int) ≤ (m : Int) := by omega
  have e2 : (m : Int) ≤ (c : Int) := by omega
  simp [go_sem, e1, e2, Try.underlying26]
theorem RdS.takeM {w : World} {b off n c : Nat} {l : List Sp} (h : RdS w (some ⟨b, off, none⟩) n c l) (m : Nat) (hm : m ≤ n) : RdS w (some ⟨b, off, none⟩) m m (l.take m) := by
  have hln := h.ln
  refine ⟨by rw [List.length_take]; omega, Nat.le_refl _, Nat.le_trans hm (Nat.le_trans h.le h.max), (fun e => by cases e), fun h0 => ?_⟩
  obtain ⟨b', off', cs, ha, hr, hc⟩ := h.mem (by omega)
  refine ⟨b', off', cs, ha, hr, fun j hj => ?_⟩
  rw [hc j (by omega)]
  have e : spv l = spv (l.take m) ++ spv (l.drop m) := by
    unfold spv
    rw [← List.flatMap_append, List.take_append_drop]
  rw [e, List.getElem?_append_left (by rw [spv_len, List.length_take]; omega)]
def lkD (D : DP) (kn0 : List Sp) (t : TS) : List Sp := kn0 ++ gapsF D.P.F 0 t.hv
def lkN (l : List Sp) : List NT := if l = [] then [] else [.ng (l.take 20)]
set_option maxRecDepth 1000000 in
set_option maxHeartbeats 8000000 in
theorem ask_tail25 (D : DP) (hD : DOk D) (W0 : World) (X B : Nat) (t : TS) (A : TA) (o : List NV) (kn0 : List Sp) (hB : B ≤ X) (hT : TW D W0 X B t A o) (hen : t.en = true) (hln : t.hv.length ≤ 100000) (hs : ∀ s ∈ t.hv, s.2 ≤ D.P.F ∧ s.1 ≤ D.P.F) (hk0 : kn0.length ≤ 1) (hn : o.length ≤ 100000) :
    Tri Try.prog 76 (pieceOf Try.f25 [1, 1]) (fun z w => z 0 = .pointer (some ⟨X, 0, none⟩) ∧ (∃ la lc, z 2 = .slice la kn0.length lc ∧ w.ownsRow W0.heap.size 84 2 (.slice la kn0.length lc) kn0.length (spv kn0)) ∧ Below W0.heap.size W0 w)
      (fun z w z' w' => (∃ oa oc vs, TW D w' X B t { A with oa := oa, oc := oc } (o ++ vs) ∧ vs.map (·.k) = lkN (lkD D kn0 t)) ∧ TwS W0 w' B) := by
  rintro Q z w ⟨s0, ⟨la, lc, s2, ho⟩, hb⟩ hQ
  have HQ := hid hQ
  have HT := hid hT
  have HO := hid ho
  have HB := hid hb
  have HS := hid hs
  clear hQ hT ho hb hs
  conv => arg 2; whnf
  rw [fr76]
  simp only [s0, s2]
  clear s0 s2
  refine wp_seq_k (fun K0 hK0 => ?_)
  go_wp2_with fail
  refine hK0.out _ _ ?_
  refine wp_seq_k (fun K1 hK1 => ?_)
  refine wp_seq_k (fun K2 hK2 => ?_)
  refine use_fr (N := 76) rfl ?_
  refine Tri.use (ask_list D hD X B t A o hB hen hln) rfl ⟨rfl, HT.out.below HB.out⟩ ?_
  rintro y W ⟨e0, e2, e3, ⟨⟨L, c, e36, hL0, hL1, hr⟩, e37, e38, hb1⟩⟩
  have q0 : y 0 = .pointer (some ⟨X, 0, none⟩) := e0
  have q2 : y 2 = .slice la kn0.length lc := e2
  have q3 : y 3 = .int .i64 0 := e3
  have O1 := hid (ownsRow_below HO.out hb1)
  have hne : (Value.slice la kn0.length lc).ownBlock ≠ some L := fun e => by have := (HO.out.lt L e).2; omega
  have HR := hid hr
  have B1 := hid (HB.out.trans (hb1.mono HB.out.size))
  clear e0 e2 e3 hb1 hr HO HB hL0
  refine hK2.out _ _ ?_
  generalize hl : t.hv ++ [(D.P.F, D.P.F + 1)] = l at *
  have hll : l.length ≤ 100001 := by rw [← hl, List.length_append]; show t.hv.length + 1 ≤ _; omega
  refine Tri.use (ask_loop D hD W0 X L l.length c 0 kn0 l hll hk0 ?_) rfl ⟨⟨0, la, lc, kn0, Nat.zero_le _, (fr_at 76 y 0 (by decide)).trans q0, (fr_at 76 y 36 (by decide)).trans e36, (fr_at 76 y 37 (by decide)).trans e37, (fr_at 76 y 38 (by decide)).trans e38, (fr_at 76 y 3 (by decide)).trans q3, rfl, (fr_at 76 y 2 (by decide)).trans q2, O1.out, hne, hL1, HR.out, B1.out⟩, (fr_at 76 y 38 (by decide)).trans e38, B, A, o, t, HT.out, hen⟩ ?_
  · intro s h
    rw [← hl] at h
    rcases List.mem_append.1 h with h | h
    · have := HS.out s h
      omega
    · rw [List.mem_singleton] at h
      subst h
      exact ⟨Nat.le_refl _, Nat.le_refl _⟩
  rintro y2 W2 ⟨e0, la2, lc2, acc, hacc, e2, ho2, hb2⟩
  have hacc2 : acc = lkD D kn0 t := by
    rw [hacc, ← hl, gstep_all]
    rfl
  have hlen : acc.length ≤ 200000 := by
    rw [hacc]
    refine Nat.le_trans (gstep_len _ _ _) ?_
    show kn0.length + _ ≤ _
    omega
  clear hacc hl O1 HR B1 q0 q2 q3 e36 e37 e38
  subst hacc2
  obtain ⟨lk, hlk⟩ : ∃ lk, lk = lkD D kn0 t := ⟨_, rfl⟩
  rw [← hlk] at e2 ho2 hlen
  rw [← hlk] at HQ
  have T2 := hid (HT.out.below hb2)
  have S2 := hid ((TwS.refl W0 B).below (HT.out.lt hB) hb2)
  have O2 := hid ho2
  clear ho2 hb2 hlk
  refine hK1.out _ _ ?_
  rw [fr76]
  simp only [e0, e2]
  clear e0 e2
  refine wp_seq_k (fun K3 hK3 => ?_)
  by_cases hz : lk = []
  · subst hz
    have d1 : decide ((0 : Int) > 0) = false := rfl
    go_wp2_with fail
    refine hK3.out _ _ ?_
    go_wp2_with fail
    refine q_fr (N := 76) HQ.out rfl ⟨⟨A.oa, A.oc, [], ?_, rfl⟩, S2.out⟩
    rw [List.append_nil]
    exact T2.out
  · have hpos : 0 < lk.length := List.length_pos_iff.2 hz
    have e1 : lkN lk = [.ng (lk.take 20)] := if_neg hz
    rw [e1] at HQ
    obtain ⟨g, hg⟩ : ∃ g, la2 = some ⟨g, 0, none⟩ := by
      rcases O2.out.2 with ⟨_, h0⟩ | ⟨g, cap, cur, hv, _⟩
      · omega
      · injection hv with hv
        exact ⟨g, hv⟩
    subst hg
    have hrd := RdS.ofOwn O2.out
    have hle := hrd.le
    obtain ⟨n, hnn⟩ : ∃ n, n = lk.length := ⟨_, rfl⟩
    obtain ⟨m, hm⟩ : ∃ m, m = min n 20 := ⟨_, rfl⟩
    have hmn : m ≤ n := by omega
    have hrm := hrd.takeM m (by omega)
    have hml : (lk.take 20).length = m := by rw [List.length_take]; omega
    have htk : lk.take m = lk.take 20 := by
      by_cases h20 : n ≤ 20
      · rw [List.take_of_length_le (i := m) (by omega), List.take_of_length_le (i := 20) (by omega)]
      · rw [show m = 20 by omega]
    rw [htk] at hrm
    have HN := hid (show NVM D W2 ⟨.ng (lk.take 20), some ⟨g, 0, none⟩, m⟩ from by
      show RdS W2 _ (lk.take 20).length m (lk.take 20)
      rw [hml]
      exact hrm)
    rw [← hnn] at hle hpos ⊢
    have hcut := hid (run_cut26m g 0 n lc2 m hmn hle)
    have a2 : (if (20 : Int) < (n : Int) then (20 : Int) else (n : Int)) = (m : Int) := by split <;> omega
    have d1 : decide ((n : Int) > 0) = true := decide_eq_true (by omega)
    have d2 : (0 : Int) < (n : Int) := by omega
    have D1 : (20 : Int) < (n : Int) ∨ (n : Int) ≤ 20 := by omega
    have HML := hid hml
    clear hrd hrm htk hml hm hnn hz O2 e1
    go_wp2_with fail
    refine hK3.out _ _ ?_
    refine wp_cond_true rfl ?_
    have hs : Hid (Calls Try.prog 46 #[.pointer (some ⟨X, 0, none⟩), .agg #[.int .i64 4, .int .i64 0, .string { data := #[] }, .int .i64 0, .int .i64 0, .int .i64 0, .slice none 0 0, .slice (some ⟨g, 0, none⟩) m m, .int .i64 0, .int .i64 0]] W2 fun e w' => Say46 D W2 w' X B (twc D t A t.hv.length (topH t.hv) o.length) o ⟨.ng (lk.take 20), some ⟨g, 0, none⟩, m⟩ e) := by
      have h1 := say46_ok D X B (twc D t A t.hv.length (topH t.hv) o.length) o ⟨.ng (lk.take 20), some ⟨g, 0, none⟩, m⟩ A.oa A.oc W2 hB T2.out.bx rfl rfl T2.out.ow hn
      have e1 : (ncI D 0 ⟨.ng (lk.take 20), some ⟨g, 0, none⟩, m⟩).toArray = #[.int .i64 4, .int .i64 0, .string { data := #[] }, .int .i64 0, .int .i64 0, .int .i64 0, .slice none 0 0, .slice (some ⟨g, 0, none⟩) m m, .int .i64 0, .int .i64 0] := by
        unfold ncI ngaps
        dsimp only
        rw [HML.out]
        rfl
      rw [e1] at h1
      exact hid h1
    have hcut2 := hcut.out
    clear hcut
    go_wp2_with fail
    refine (Calls.mono hs.out ?_)
    intro e w' hs'
    have he := hs'.he
    subst he
    obtain ⟨oa', oc', k1, k2⟩ := T2.out.said HN.out hs'
    have K1' := hid k1
    have K2' := hid (S2.out.trans k2)
    clear hs' hs k1 k2
    go_wp2_with fail
    exact q_fr (N := 76) HQ.out rfl ⟨⟨oa', oc', [⟨.ng (lk.take 20), some ⟨g, 0, none⟩, m⟩], K1'.out, rfl⟩, K2'.out⟩
set_option maxRecDepth 1000000 in
set_option maxHeartbeats 8000000 in
theorem ask_ok (D : DP) (hD : DOk D) (X B : Nat) (t : TS) (A : TA) (o : List NV) (w : World) (hB : B ≤ X) (h : TW D w X B t A o) (hen : t.en = true) (hln : t.hv.length ≤ 100000) (hs : ∀ s ∈ t.hv, s.2 ≤ D.P.F ∧ s.1 ≤ D.P.F) (hn : o.length ≤ 100000) :
    Calls Try.prog 25 #[.pointer (some ⟨X, 0, none⟩)] w fun e w' => TwRs D w w' X B t A (askT D.P t) e o (.tuple #[]) := by
  obtain ⟨i0, hi, hz0, hz1, hz2⟩ := info_parts Try.info84
  have H := hid h
  have HS := hid hs
  have c1 : w.cell? ⟨X, 1, none⟩ = some (.bool t.kn) := by rw [cell_of_row _ _ _ _ _ _ h.bx]; rfl
  clear h hs
  go_enter Try.func25, Try.ntmps25
  refine wp_seq_k (fun K0 hK0 => ?_)
  go_wp2_with fail
  refine hK0.out _ _ ?_
  refine wp_seq_k (fun K1 hK1 => ?_)
  cases hkn : t.kn with
  | true =>
    rw [hkn] at c1
    go_wp2_with fail
    refine hK1.out _ _ ?_
    clear c1
    refine use_fr (N := 76) rfl ?_
    refine Tri.use (ask_tail25 D hD w X B t A o [] hB H.out hen hln HS.out (Nat.zero_le _) hn) rfl ⟨rfl, ⟨none, 0, rfl, World.ownsRow_nil _ _ _ _⟩, Below.refl _ _⟩ ?_
    rintro y W ⟨⟨oa, oc, vs, h1, h2⟩, h3⟩
    have H1 := hid h1
    have H2 := hid h2
    have H3 := hid h3
    clear h1 h2 h3
    go_end0
    refine ⟨rfl, ⟨oa, oc, vs, H1.out, ?_⟩, H3.out⟩
    rw [H2.out]
    unfold askT lkN lkD lacks
    rw [hkn]
    rfl
  | false =>
    rw [hkn] at c1
    have bN := below_alloc w (.cells #[.int .i64 0, .int .i64 0] 84)
    have Hnew : Hid (∀ (j : Nat) (u : Value), ([.int .i64 0, .int .i64 0] : List Value)[j]? = some u → (w.alloc (.cells #[.int .i64 0, .int .i64 0] 84)).cell? ((⟨w.heap.size, 0, none⟩ : Addr).add j) = some u) := new_cells w [.int .i64 0, .int .i64 0] 84
    have hB1 : w.heap.size ≤ (w.alloc (.cells #[.int .i64 0, .int .i64 0] 84)).heap.size := bN.size
    have HBN := hid bN
    clear bN
    go_wp2_with (at_builtin; refine wpList_append_own_at _ rfl _ _ 26 rfl w.heap.size 84 i0 _ 2 16 Try.underlying26 hi hz0 hz1 hz2 rfl (by decide) (.slice none 0 0) 0 [] rfl (World.ownsRow_nil _ _ _ _) ⟨w.heap.size, 0, none⟩ 1 1 [.int .i64 0, .int .i64 0] rfl rfl Hnew.out (by simp [Value.oneCell']) (by unfold maxLen; omega) (by omega) hB1 ?_)
    intro v' W3 own4 g4 hnl hat
    have HB := hid (HBN.out.trans ((Below.refl w.heap.size _).grown g4 hB1 (fun k hk => by cases hk)))
    obtain ⟨va, vc, rfl, _, _⟩ := own_slice own4
    have HO := hid own4
    clear own4 g4 hat hnl Hnew HBN hB1 c1
    go_wp2_with fail
    refine hK1.out _ _ ?_
    refine use_fr (N := 76) rfl ?_
    refine Tri.use (ask_tail25 D hD w X B t A o [(0, 0)] hB H.out hen hln HS.out (Nat.le_refl _) hn) rfl ⟨rfl, ⟨va, vc, rfl, HO.out⟩, HB.out⟩ ?_
    rintro y W ⟨⟨oa, oc, vs, h1, h2⟩, h3⟩
    have H1 := hid h1
    have H2 := hid h2
    have H3 := hid h3
    clear h1 h2 h3
    go_end0
    refine ⟨rfl, ⟨oa, oc, vs, H1.out, ?_⟩, H3.out⟩
    rw [H2.out]
    unfold askT lkN lkD lacks
    rw [hkn]
    rfl
end Go.Proofs.Ytopmamgdfngdoaa
/- deliver: a piece is laid: plain. -/
namespace Go.Proofs.Ytopmamgdfngdoaa
set_option linter.unusedVariables false
open Go.RowKit

/-- of n bytes those that are known -/
def fileP (n : Nat) (q : Nat → Bool) (fl : List Nat) : List Nat := (List.range n).map fun i => if q i = true then nth fl i else 0
theorem fileP_len (n : Nat) (q : Nat → Bool) (fl : List Nat) : (fileP n q fl).length = n := by unfold fileP; rw [List.length_map, List.length_range]
theorem fileT_P (fl : List Nat) (hv : List Sp) : fileT fl hv = fileP (topH hv) (hasH hv) fl := rfl
theorem fileP_at {n : Nat} {q : Nat → Bool} {fl : List Nat} {i : Nat} (h : i < n) : (fileP n q fl)[i]? = some (if q i = true then nth fl i else 0) := by
  unfold fileP
  rw [List.getElem?_map, List.getElem?_range h]
  rfl
theorem fileP_cong {n : Nat} {q q' : Nat → Bool} {fl : List Nat} (h : ∀ i, i < n → q i = q' i) : fileP n q fl = fileP n q' fl := by
  unfold fileP
  apply List.map_congr_left
  intro i hi
  rw [List.mem_range] at hi
  rw [h i hi]
theorem fileP_none (n : Nat) (fl : List Nat) : fileP n (fun _ => false) fl = List.replicate n 0 := by
  apply List.ext_getElem?
  intro i
  by_cases h : i < n
  · rw [fileP_at h, List.getElem?_replicate, if_pos h]
    rfl
  · rw [List.getElem?_eq_none (by rw [fileP_len]; omega), List.getElem?_eq_none (by rw [List.length_replicate]; omega)]
theorem sub_at {fl : List Nat} {x y i : Nat} (hi : i < y - x) (hy : y ≤ fl.length) : (sub fl x y)[i]? = some (nth fl (x + i)) := by
  unfold sub nth
  rw [List.getElem?_take, if_pos hi, List.getElem?_drop, List.getD_eq_getElem?_getD, List.getElem?_eq_getElem (by omega)]
  rfl
theorem sub_len {fl : List Nat} {x y : Nat} (hy : y ≤ fl.length) : (sub fl x y).length = y - x := by
  unfold sub
  rw [List.length_take, List.length_drop]
  omega
theorem splice_fileP {n x y : Nat} {q : Nat → Bool} {fl : List Nat} (hxy : x ≤ y) (hy : y ≤ n) (hl : y ≤ fl.length) : splice (fileP n q fl) x (sub fl x y) = fileP n (fun i => q i || decide (x ≤ i ∧ i < y)) fl := by
  have hs := sub_len (x := x) hl
  apply List.ext_getElem?
  intro i
  unfold splice
  rw [hs]
  by_cases h : i < n
  · rw [fileP_at h]
    by_cases h1 : i < x
    · rw [List.getElem?_append_left (by rw [List.length_take, fileP_len]; omega), List.getElem?_take, if_pos h1, fileP_at h, decide_eq_false (by omega), Bool.or_false]
    · rw [List.getElem?_append_right (by rw [List.length_take, fileP_len]; omega), List.length_take, fileP_len, Nat.min_eq_left (by omega)]
      by_cases h2 : i < y
      · rw [List.getElem?_append_left (by rw [hs]; omega), sub_at (by omega) hl, decide_eq_true (⟨by omega, h2⟩ : x ≤ i ∧ i < y), Bool.or_true, if_pos rfl, show x + (i - x) = i by omega]
      · rw [List.getElem?_append_right (by rw [hs]; omega), hs, List.getElem?_drop, show x + (y - x) + (i - x - (y - x)) = i by omega, fileP_at h, decide_eq_false (by omega), Bool.or_false]
  · have e1 : (fileP n (fun i => q i || decide (x ≤ i ∧ i < y)) fl)[i]? = none := List.getElem?_eq_none (by rw [fileP_len]; omega)
    rw [e1, List.getElem?_eq_none]
    rw [List.length_append, List.length_append, List.length_take, List.length_drop, fileP_len, hs]
    omega
theorem splice_vb (a b : List Nat) (o : Nat) : splice (vb a) o (vb b) = vb (splice a o b) := by
  unfold splice
  rw [vb_len, vb_take, vb_drop]
  unfold vb
  rw [List.map_append, List.map_append]
/-- a row's bytes -/
theorem sub_fileT {fl : List Nat} {hv : List Sp} {s : Sp} (hs : s ∈ hv) (hr : Ris 0 hv) (hl : s.2 ≤ fl.length) : sub (fileT fl hv) s.1 s.2 = sub fl s.1 s.2 := by
  have ht := hr.top_ge s hs
  apply List.ext_getElem?
  intro i
  by_cases h : i < s.2 - s.1
  · rw [sub_at h hl, sub_at h (by rw [fileT_len]; omega)]
    unfold nth
    rw [List.getD_eq_getElem?_getD, fileT_P, fileP_at (by omega)]
    rw [if_pos]
    · rfl
    · unfold hasH
      rw [List.any_eq_true]
      exact ⟨s, hs, decide_eq_true ⟨by omega, by omega⟩⟩
  · rw [List.getElem?_eq_none (by rw [sub_len (by rw [fileT_len]; exact ht)]; omega), List.getElem?_eq_none (by rw [sub_len hl]; omega)]
theorem topH_mem {l : List Sp} (h : l ≠ []) : ∃ s ∈ l, topH l = s.2 := by
  unfold topH
  cases e : l.getLast? with
  | none => rw [List.getLast?_eq_none_iff] at e; exact absurd e h
  | some s => exact ⟨s, List.mem_of_getLast? e, rfl⟩
theorem inH_top {l : List Sp} {b : Nat} (h : l ≠ []) (hr : Ris b l) : inH l (topH l) := by
  obtain ⟨s, h1, h2⟩ := topH_mem h
  have := hr.each s h1
  exact ⟨s, h1, by omega, by omega⟩
theorem inH_le {l : List Sp} {b i : Nat} (hr : Ris b l) (h : inH l i) : i ≤ topH l := by
  obtain ⟨s, h1, h2, h3⟩ := h
  have := hr.top_ge s h1
  omega
theorem layH_ne (m : Sp) : ∀ l : List Sp, layH m l ≠ []
  | [] => by unfold layH; simp
  | s :: r => by
    unfold layH
    split
    · simp
    · split
      · simp
      · exact layH_ne _ r
theorem topH_lay {l : List Sp} {m : Sp} (hr : Ris 0 l) (hm : m.1 < m.2) : topH (layH m l) = max (topH l) m.2 := by
  have h1 := lay_ris l m 0 (Nat.zero_le _) hm hr
  have hi := fun i => lay_in l m i hm hr.each
  have ht := (hi _).1 (inH_top (layH_ne m l) h1)
  have hm2 := inH_le h1 ((hi m.2).2 (.inl ⟨hm, Nat.le_refl _⟩))
  have hu : topH (layH m l) ≤ max (topH l) m.2 := by
    rcases ht with h | h
    · omega
    · have := inH_le hr h
      omega
  have hd : topH l ≤ topH (layH m l) := by
    by_cases hl : l = []
    · subst hl; exact Nat.zero_le _
    · exact inH_le h1 ((hi _).2 (.inr (inH_top hl hr)))
  omega
theorem hasH_lay {l : List Sp} {m : Sp} (hr : Ris 0 l) (hm : m.1 < m.2) (i : Nat) : hasH (layH m l) i = (hasH l i || decide (m.1 ≤ i ∧ i < m.2)) := by
  rw [Bool.eq_iff_iff, hasH_iff, lay_in l m (i + 1) hm hr.each, Bool.or_eq_true, hasH_iff, decide_eq_true_eq]
  constructor
  · rintro (h | h)
    · right; omega
    · left; exact h
  · rintro (h | h)
    · right; exact h
    · left; omega
theorem fileT_lay {fl : List Nat} {l : List Sp} {m : Sp} (hr : Ris 0 l) (hm : m.1 < m.2) : fileT fl (layH m l) = fileP (max (topH l) m.2) (fun i => decide (m.1 ≤ i ∧ i < m.2) || hasH l i) fl := by
  rw [fileT_P, topH_lay hr hm]
  exact fileP_cong fun i _ => by rw [hasH_lay hr hm, Bool.or_comm]
theorem hasH_snoc (l : List Sp) (s : Sp) (i : Nat) : hasH (l ++ [s]) i = (hasH l i || decide (s.1 ≤ i ∧ i < s.2)) := by
  unfold hasH
  rw [List.any_append, List.any_cons, List.any_nil, Bool.or_false]
end Go.Proofs.Ytopmamgdfngdoaa
/- The walk stops at the operation that fills a given slot. -/
namespace Go.Proofs.Ytopmamgdfngdoaa
set_option linter.unusedVariables false
open Go.RowKit

theorem at_dst {P : Program} {ops : Array Oper} {Q : Exit → Act → World → Prop} {rest : List Oper} {a : Act} {w : World} (d : Nat) {op : Op} {t : TypeId} {pos : String} {after : Array Edge} {guard : Option (Nat × Bool)}
    (h : Hid (wpList P ops Q ({ dst := some d, op := op, type := t, pos := pos, after := after, guard := guard } :: rest) a w)) : wpList P ops Q ({ dst := some d, op := op, type := t, pos := pos, after := after, guard := guard } :: rest) a w := h
end Go.Proofs.Ytopmamgdfngdoaa
