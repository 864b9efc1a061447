/- PassesBest: the passes that the law makes. -/
import Derived.Test.YtfbchmihkndfaaaDue22
import Derived.Test.YtfbchmihkndfaaaDue15
import Derived.Test.YtfbchmihkndfaaaDue21
namespace Go.Proofs.Ytfbchmihkndfaaa
set_option linter.unusedVariables false
open Go.RowKit

theorem Try.info41 : (Try.prog.info? 41).map (fun i => (i.zero, i.size, i.bytes)) = some (some (.agg #[.int .i64 0, .int .i64 0, .int .i64 0, .int .i64 0]), 4, 32) := by kernel_rfl
/-- pairs of ints that came in -/
structure RawAt (w : World) (ra : Option Addr) (rn rc : Nat) (ts : Nat → Int × Int) : Prop where
  le : rn ≤ rc
  max : rc ≤ maxLen
  mem : 0 < rn → ∃ b off, ra = some ⟨b, off, none⟩ ∧ b < w.heap.size ∧ ∀ j, j < rn → w.cell? ⟨b, off + j * 2, none⟩ = some (.int .i64 (ts j).1) ∧ w.cell? ⟨b, off + j * 2 + 1, none⟩ = some (.int .i64 (ts j).2)
  bd : ∀ j, j < rn → I64 (ts j).1 ∧ I64 (ts j).2
def nI (zs : List Int) (ln i : Nat) : Nat := 1 + if i < ln then pk (zs.getD i 0) 25 else 0
def psI (ts : Nat → Int × Int) (zs : List Int) (ln i : Nat) : Ps := ⟨pk (ts i).2 3, pk (ts i).1 60, pk (ts i).1 60 + nI zs ln i, pk ((ts i).2.tdiv 3) 20⟩
def psTo (ts : Nat → Int × Int) (zs : List Int) (ln : Nat) : Nat → List Ps
  | 0 => []
  | k + 1 => psTo ts zs ln k ++ [psI ts zs ln k]
theorem psTo_len (ts : Nat → Int × Int) (zs : List Int) (ln : Nat) : ∀ k, (psTo ts zs ln k).length = k
  | 0 => rfl
  | k + 1 => by unfold psTo; rw [List.length_append, psTo_len ts zs ln k]; rfl
theorem nI_le (zs : List Int) (ln i : Nat) : 1 ≤ nI zs ln i ∧ nI zs ln i ≤ 25 := by
  unfold nI
  split
  · have := pk_lt (zs.getD i 0) 25 (by decide); omega
  · omega
theorem psI_good (ts : Nat → Int × Int) (zs : List Int) (ln i : Nat) : (psI ts zs ln i).Good := by
  have h1 := pk_lt (ts i).2 3 (by decide)
  have h2 := pk_lt (ts i).1 60 (by decide)
  have h3 := pk_lt ((ts i).2.tdiv 3) 20 (by decide)
  have h4 := nI_le zs ln i
  exact ⟨by show pk (ts i).2 3 ≤ 31; omega, by show pk (ts i).1 60 + 1 ≤ pk (ts i).1 60 + nI zs ln i; omega, by show pk (ts i).1 60 + nI zs ln i ≤ 1000; omega, by show pk ((ts i).2.tdiv 3) 20 ≤ 1000; omega⟩
theorem psTo_good (ts : Nat → Int × Int) (zs : List Int) (ln : Nat) : ∀ k, GoodPs (psTo ts zs ln k)
  | 0, i, hi => by simp [psTo] at hi
  | k + 1, i, hi => by
    have hl := psTo_len ts zs ln k
    unfold pAt
    rw [List.getD_eq_getElem?_getD]
    unfold psTo at hi ⊢
    by_cases e : i < k
    · rw [List.getElem?_append_left (by omega), ← List.getD_eq_getElem?_getD]
      exact psTo_good ts zs ln k i (by omega)
    · rw [List.length_append, hl] at hi
      have hi' : i < k + 1 := hi
      obtain rfl : i = k := by omega
      rw [List.getElem?_append_right (by omega), hl, Nat.sub_self]
      exact psI_good ts zs ln i
theorem pc_len (p : Ps) : (pc p).length = 4 := rfl
theorem pc_one (p : Ps) : ∀ u ∈ pc p, u.oneCell' = true := by
  intro u hu
  simp only [pc, List.mem_cons, List.not_mem_nil, or_false] at hu
  rcases hu with rfl | rfl | rfl | rfl <;> rfl
theorem rd_own {w : World} {B n cap : Nat} {la : Option Addr} {l : List Ps} (h : w.ownsRow B 41 4 (.slice la n cap) n (l.flatMap pc)) (hl : l.length = n) : RdPs w la n cap l := by
  rcases h.2 with ⟨h3, h0⟩ | ⟨g1, cap1, cur, h3, h4, h5, h6, h7, _⟩
  · cases h3
    exact ⟨hl, by omega, by unfold maxLen; omega, fun h => by omega⟩
  · cases h3
    refine ⟨hl, h6, h7, fun hn => ⟨g1, rfl, row_lt h5, ⟨cur, h5⟩, fun j hj => ?_⟩⟩
    have e : pAt l j = l[j]'(by omega) := by
      unfold pAt
      rw [List.getD_eq_getElem?_getD, List.getElem?_eq_getElem (by omega)]
      rfl
    rw [e]
    have hc := fun i (hi : i < 4) => own_flat pc pc_len h hl j hj i hi
    exact ⟨(by have h9 := hc 0 (by decide); rw [Nat.add_zero] at h9; exact h9), hc 1 (by decide), hc 2 (by decide), hc 3 (by decide)⟩
structure SM4 (y : Nat → Value) (ra : Option Addr) (rn rc : Nat) (za : Option Addr) (ln zc : Nat) (z3 : Int) (lv : Value) (i : Nat) : Prop where
  s0 : y 0 = .slice ra rn rc
  s1 : y 1 = .slice za ln zc
  s2 : y 2 = .int .i64 z3
  s7 : y 7 = lv
  s8 : y 8 = .int .i64 (i : Int)
set_option maxRecDepth 1000000 in
theorem fr236 (y : Nat → Value) : fr 236 y = #[y 0, y 1, y 2, y 3, y 4, y 5, y 6, y 7, y 8, y 9, y 10, y 11, y 12, y 13, y 14, y 15, y 16, y 17, y 18, y 19, y 20, y 21, y 22, y 23, y 24, y 25, y 26, y 27, y 28, y 29, y 30, y 31, y 32, y 33, y 34, y 35, y 36, y 37, y 38, y 39, y 40, y 41, y 42, y 43, y 44, y 45, y 46, y 47, y 48, y 49, y 50, y 51, y 52, y 53, y 54, y 55, y 56, y 57, y 58, y 59, y 60, y 61, y 62, y 63, y 64, y 65, y 66, y 67, y 68, y 69, y 70, y 71, y 72, y 73, y 74, y 75, y 76, y 77, y 78, y 79, y 80, y 81, y 82, y 83, y 84, y 85, y 86, y 87, y 88, y 89, y 90, y 91, y 92, y 93, y 94, y 95, y 96, y 97, y 98, y 99, y 100, y 101, y 102, y 103, y 104, y 105, y 106, y 107, y 108, y 109, y 110, y 111, y 112, y 113, y 114, y 115, y 116, y 117, y 118, y 119, y 120, y 121, y 122, y 123, y 124, y 125, y 126, y 127, y 128, y 129, y 130, y 131, y 132, y 133, y 134, y 135, y 136, y 137, y 138, y 139, y 140, y 141, y 142, y 143, y 144, y 145, y 146, y 147, y 148, y 149, y 150, y 151, y 152, y 153, y 154, y 155, y 156, y 157, y 158, y 159, y 160, y 161, y 162, y 163, y 164, y 165, y 166, y 167, y 168, y 169, y 170, y 171, y 172, y 173, y 174, y 175, y 176, y 177, y 178, y 179, y 180, y 181, y 182, y 183, y 184, y 185, y 186, y 187, y 188, y 189, y 190, y 191, y 192, y 193, y 194, y 195, y 196, y 197, y 198, y 199, y 200, y 201, y 202, y 203, y 204, y 205, y 206, y 207, y 208, y 209, y 210, y 211, y 212, y 213, y 214, y 215, y 216, y 217, y 218, y 219, y 220, y 221, y 222, y 223, y 224, y 225, y 226, y 227, y 228, y 229, y 230, y 231, y 232, y 233, y 234, y 235] := rfl
set_option maxRecDepth 1000000 in
set_option maxHeartbeats 1000000 in
theorem bst_7 (w0 W0 : World) (ra : Option Addr) (rn rc : Nat) (za : Option Addr) (ln zc : Nat) (z3 : Int) (lv : Value) (i : Nat) (zs : List Int) (f : Nat) (hi : i < 9) (hb : Below w0.heap.size w0 W0) (hz : Rd w0 za ln zc (vz zs)) (hzb : ∀ z ∈ zs, I64 z) :
    Tri Try.prog 236 (pieceOf Try.f4 [1, 1, 0, 1, 0, 0, 1, 0, 0, 1, 1, 0]) (fun y w => SM4 y ra rn rc za ln zc z3 lv i ∧ y 9 = .int .i64 (f : Int) ∧ y 10 = .int .i64 1 ∧ w = W0)
      (fun _ _ y w => SM4 y ra rn rc za ln zc z3 lv i ∧ y 9 = .int .i64 (f : Int) ∧ y 10 = .int .i64 (nI zs ln i : Nat) ∧ w = W0) := by
  rintro Q y w ⟨⟨s0, s1, s2, s7, s8⟩, s9, s10, rfl⟩ hQ
  have HQ := hid hQ
  have hN : Hid (nI zs ln i = 1 + if i < ln then pk (zs.getD i 0) 25 else 0) := rfl
  have hlm : ln ≤ maxLen := Nat.le_trans hz.le hz.max
  unfold maxLen at hlm
  generalize nI zs ln i = ni at *
  clear hQ
  conv => arg 2; whnf
  rw [fr236]
  by_cases h1 : i < ln
  · obtain ⟨zb, zo, rfl, hzl, hzc⟩ := hz.cellz i h1
    have c0 : w.cell? ⟨zb, zo + i, none⟩ = some (.int .i64 (zs.getD i 0)) := (hb.cell (p := ⟨zb, zo + i, none⟩) hzl).trans hzc
    obtain ⟨g1, g2⟩ := getD_i64 hzb i
    have hp := pick_st (zs.getD i 0) 25 w g1 g2 (by decide) (by decide)
    rw [show (25 : Int).toNat = 25 from rfl] at hp
    have hpl := pk_lt (zs.getD i 0) 25 (by decide)
    rw [if_pos h1] at hN
    generalize pk (zs.getD i 0) 25 = p at *
    generalize zs.getD i 0 = x at *
    have d1 : decide ((i : Int) < (ln : Int)) = true := decide_eq_true (by omega)
    have d2 : decide (i < ln) = true := decide_eq_true h1
    simp only [s0, s1, s2, s7, s8, s9, s10]
    clear s0 s1 s2 s7 s8 s9 s10 hzc g1 g2 hz hzb hb
    go_wp2_with fail
    refine hp.mono ?_
    rintro e w' ⟨rfl, hw'⟩
    rw [hw']
    clear hw' w'
    go_wp2_with fail
    refine q_fr (N := 236) HQ.out rfl ⟨⟨rfl, rfl, rfl, rfl, rfl⟩, rfl, ?_, rfl⟩
    rw [hN.out]
    show Value.int .i64 _ = Value.int .i64 _
    go_num
  · rw [if_neg h1] at hN
    have d1 : decide ((i : Int) < (ln : Int)) = false := decide_eq_false (by omega)
    have d2 : decide (i < ln) = false := decide_eq_false h1
    simp only [s0, s1, s2, s7, s8, s9, s10]
    clear s0 s1 s2 s7 s8 s9 s10 h1 hz hzb hb
    go_wp2_with fail
    refine q_fr (N := 236) HQ.out rfl ⟨⟨rfl, rfl, rfl, rfl, rfl⟩, rfl, ?_, rfl⟩
    rw [hN.out]
    rfl
set_option maxRecDepth 1000000 in
set_option maxHeartbeats 2000000 in
theorem bst_9 (w0 W0 : World) (ra : Option Addr) (rn rc : Nat) (ts : Nat → Int × Int) (za : Option Addr) (ln zc : Nat) (z3 : Int) (la : Option Addr) (cap i : Nat) (zs : List Int) (hi : i < 9) (hir : i < rn) (hR : RawAt w0 ra rn rc ts) (hb : Below w0.heap.size w0 W0)
    (ho : W0.ownsRow w0.heap.size 41 4 (.slice la i cap) i ((psTo ts zs ln i).flatMap pc)) :
    Tri Try.prog 236 (pieceOf Try.f4 [1, 1, 0, 1, 0, 0, 1, 0, 0, 1, 1, 1]) (fun y w => SM4 y ra rn rc za ln zc z3 (.slice la i cap) i ∧ y 9 = .int .i64 (pk (ts i).1 60 : Nat) ∧ y 10 = .int .i64 (nI zs ln i : Nat) ∧ w = W0)
      (fun _ _ y w => ∃ la' cap', SM4 y ra rn rc za ln zc z3 (.slice la' (i + 1) cap') i ∧ w.ownsRow w0.heap.size 41 4 (.slice la' (i + 1) cap') (i + 1) ((psTo ts zs ln (i + 1)).flatMap pc) ∧ Below w0.heap.size w0 w) := by
  rintro Q y w ⟨⟨s0, s1, s2, s7, s8⟩, s9, s10, rfl⟩ hQ
  have HQ := hid hQ
  obtain ⟨i41, hi41, hz41, hs41, hb41⟩ := info_parts Try.info41
  obtain ⟨rb, ro, rfl, hrl, hrc⟩ := hR.mem (by omega)
  obtain ⟨c0, c1⟩ := hrc i hir
  obtain ⟨⟨_, _⟩, t1, t2⟩ := hR.bd i hir
  have hrm : rn ≤ maxLen := Nat.le_trans hR.le hR.max
  unfold maxLen at hrm
  have e1 : ∀ w', Below w0.heap.size w.drew w' → w'.cell? ⟨rb, ro + i * 2 + 1, none⟩ = some (.int .i64 (ts i).2) := fun w' h => (((hb.trans (Below.refl _ w).drew).trans h).cell (p := ⟨rb, ro + i * 2 + 1, none⟩) hrl).trans c1
  have x3 : -9223372036854775808 ≤ (ts i).2.tdiv 3 ∧ (ts i).2.tdiv 3 ≤ 9223372036854775807 := by
    rcases Int.le_total 0 (ts i).2 with h | h
    · rw [Int.tdiv_eq_ediv_of_nonneg h]; omega
    · have : (ts i).2.tdiv 3 = -((-(ts i).2).tdiv 3) := by rw [Int.neg_tdiv, Int.neg_neg]
      rw [this, Int.tdiv_eq_ediv_of_nonneg (by omega)]
      omega
  have q3 : IntKind.i64.wrap ((ts i).2.tdiv 3) = (ts i).2.tdiv 3 := IntWalk.i64_in _ (by omega)
  have hpA := fun W => pick_st (ts i).2 3 W t1 t2 (by decide) (by decide)
  have hpB := fun W => pick_st ((ts i).2.tdiv 3) 20 W x3.1 x3.2 (by decide) (by decide)
  rw [show (3 : Int).toNat = 3 from rfl] at hpA
  rw [show (20 : Int).toNat = 20 from rfl] at hpB
  have hflt := pk_lt (ts i).1 60 (by decide)
  have hnle := nI_le zs ln i
  have Hd := hid (hb.trans (Below.refl _ w).drew)
  have Ho := hid (show w.drew.ownsRow w0.heap.size 41 4 (.slice la i cap) i ((psTo ts zs ln i).flatMap pc) from ownsRow_below ho (Below.refl _ w).drew)
  have hps : Hid (psI ts zs ln i = ⟨pk (ts i).2 3, pk (ts i).1 60, pk (ts i).1 60 + nI zs ln i, pk ((ts i).2.tdiv 3) 20⟩) := rfl
  have hpt : Hid ((psTo ts zs ln (i + 1)).flatMap pc = (psTo ts zs ln i).flatMap pc ++ pc (psI ts zs ln i)) := flat_snoc pc _ _
  have hwB := hb.size
  generalize (psTo ts zs ln (i + 1)).flatMap pc = F1 at *
  generalize (psTo ts zs ln i).flatMap pc = F0 at *
  generalize psI ts zs ln i = pI at *
  obtain ⟨d3, hd3⟩ : ∃ d3, (ts i).2.tdiv 3 = d3 := ⟨_, rfl⟩
  rw [hd3] at q3 hpB hps x3
  generalize pk d3 20 = pw at *
  generalize pk (ts i).2 3 = pst at *
  generalize pk (ts i).1 60 = pf at *
  generalize nI zs ln i = ni at *
  have a1 : (pf : Int) + (ni : Int) = ((pf + ni : Nat) : Int) := by omega
  have w1 : IntKind.i64.wrap ((pf + ni : Nat) : Int) = ((pf + ni : Nat) : Int) := IntWalk.i64_in _ (by omega)
  generalize pf + ni = pt at *
  generalize (ts i).2 = ti at *
  have hds : Hid (w.drew.heap.size = w.heap.size) := rfl
  clear hQ hR hb ho hrc c0 c1 t1 t2 x3
  conv => arg 2; whnf
  rw [fr236]
  simp only [s0, s1, s2, s7, s8, s9, s10]
  clear s0 s1 s2 s7 s8 s9 s10
  refine wp_region_can_all [6, 17, 19, 20] [0, 1, 2, 3, 4, 5, 7, 8, 9, 10, 11, 12, 13, 14, 15, 16, 6, 17, 18, 19, 20, 21] (Below w0.heap.size) (fun _ => Below.refl _ _) (fun _ _ _ h k => h.trans k) (by kernel_rfl) (by kernel_rfl) ?_
  simp only [List.map_cons, List.map_nil, List.contains_cons, List.contains_nil, List.getD_cons_zero, List.getD_cons_succ, Nat.reduceBEq, Bool.or_false, Bool.or_true]
  generalize w.drew = U at *
  repeat (refine wpL_do rfl (fun w' hw' => (by go_simp; rfl)) ?_; simp only [Act.put, List.setIfInBounds_toArray, List.set_cons_succ, List.set_cons_zero])
  clear e1 a1 w1 q3
  refine wpL_call rfl (fun K hK => ?_)
  go_wp2_with fail
  refine (hpA _).mono ?_
  rintro e w' ⟨rfl, hw'⟩
  rw [hw']
  clear hw' w'
  refine hK _ _ (Below.refl _ _) ?_
  clear hK K
  try simp only [Act.put, List.setIfInBounds_toArray, List.set_cons_succ, List.set_cons_zero]
  refine wpL_call rfl (fun K hK => ?_)
  go_wp2_with fail
  refine (hpB _).mono ?_
  rintro e w' ⟨rfl, hw'⟩
  rw [hw']
  clear hw' w'
  refine hK _ _ (Below.refl _ _) ?_
  clear hK K
  try simp only [Act.put, List.setIfInBounds_toArray, List.set_cons_succ, List.set_cons_zero]
  refine wpL_do rfl (fun w' hw' => (by go_simp; rfl)) ?_
  simp only [Act.put, List.setIfInBounds_toArray, List.set_cons_succ, List.set_cons_zero]
  have b2 := below_alloc U (.cells #[.int .i64 (pst : Int), .int .i64 (pf : Int), .int .i64 (pt : Int), .int .i64 (pw : Int)] 41)
  have hnew : ∀ (k : Nat) (x : Value), (pc pI)[k]? = some x → (U.alloc (.cells #[.int .i64 (pst : Int), .int .i64 (pf : Int), .int .i64 (pt : Int), .int .i64 (pw : Int)] 41)).cell? ((⟨U.heap.size, 0, none⟩ : Addr).add k) = some x := by
    rw [hps.out]
    exact new_cells U (pc ⟨pst, pf, pt, pw⟩) 41
  refine wpL_call rfl (fun K hK => ?_)
  go_wp2_with fail
  refine hK _ _ (b2.mono (by have := hds.out; omega)) ?_
  clear hK K
  try simp only [Act.put, List.setIfInBounds_toArray, List.set_cons_succ, List.set_cons_zero]
  have Ho2 := hid (ownsRow_below Ho.out b2)
  have Hd2 := hid (Hd.out.trans (b2.mono (by have := hds.out; omega)))
  have hs2 := hid b2.size
  clear b2
  obtain ⟨N1, hN1⟩ : ∃ N1, N1 = U.heap.size := ⟨_, rfl⟩
  rw [← hN1] at hnew ⊢
  clear hN1
  generalize U.alloc (.cells #[.int .i64 (pst : Int), .int .i64 (pf : Int), .int .i64 (pt : Int), .int .i64 (pw : Int)] 41) = U2 at *
  refine wpL_call rfl (fun K hK => ?_)
  refine wp_append_wide_at (.tmp 53) (.tmp 72) 39 rfl w0.heap.size 41 i41 _ 4 32 Try.underlying39 hi41 hz41 hs41 hb41 rfl (by decide) (.slice la i cap) i F0 rfl Ho2.out ⟨N1, 0, none⟩ 1 1 (pc pI) rfl rfl hnew (pc_one _) (by unfold maxLen; omega) (by omega) Hd2.out.size ?_
  intro v' W3 o3 g3 _
  obtain ⟨va, vc, rfl, _, _⟩ := own_slice o3
  have hgr : ∀ k, (Value.slice la i cap).ownBlock = some k → w0.heap.size ≤ k := fun k hk => (Ho2.out.lt k hk).1
  refine hK _ _ ((Below.refl _ _).grown g3 Hd2.out.size hgr) ?_
  clear hK K
  try simp only [Act.put, List.setIfInBounds_toArray, List.set_cons_succ, List.set_cons_zero]
  have Hd3 := hid (Hd2.out.grown g3 Hd2.out.size hgr)
  have Ho3 := hid o3
  clear o3 g3 hgr hnew
  refine wpL_do rfl (fun w' hw' => (by go_simp; rfl)) ?_
  simp only [Act.put, List.setIfInBounds_toArray, List.set_cons_succ, List.set_cons_zero]
  refine wpL_nil ?_
  exact q_fr (N := 236) HQ.out rfl ⟨va, vc, ⟨rfl, rfl, rfl, rfl, rfl⟩, by rw [hpt.out]; exact Ho3.out, Hd3.out⟩
end Go.Proofs.Ytfbchmihkndfaaa
/- PassesDue: the law: windows and rates; the inner loop. -/
namespace Go.Proofs.Ytfbchmihkndfaaa
set_option linter.unusedVariables false
open Go.RowKit

set_option maxRecDepth 1000000 in
theorem fr272 (y : Nat → Value) : fr 272 y = #[y 0, y 1, y 2, y 3, y 4, y 5, y 6, y 7, y 8, y 9, y 10, y 11, y 12, y 13, y 14, y 15, y 16, y 17, y 18, y 19, y 20, y 21, y 22, y 23, y 24, y 25, y 26, y 27, y 28, y 29, y 30, y 31, y 32, y 33, y 34, y 35, y 36, y 37, y 38, y 39, y 40, y 41, y 42, y 43, y 44, y 45, y 46, y 47, y 48, y 49, y 50, y 51, y 52, y 53, y 54, y 55, y 56, y 57, y 58, y 59, y 60, y 61, y 62, y 63, y 64, y 65, y 66, y 67, y 68, y 69, y 70, y 71, y 72, y 73, y 74, y 75, y 76, y 77, y 78, y 79, y 80, y 81, y 82, y 83, y 84, y 85, y 86, y 87, y 88, y 89, y 90, y 91, y 92, y 93, y 94, y 95, y 96, y 97, y 98, y 99, y 100, y 101, y 102, y 103, y 104, y 105, y 106, y 107, y 108, y 109, y 110, y 111, y 112, y 113, y 114, y 115, y 116, y 117, y 118, y 119, y 120, y 121, y 122, y 123, y 124, y 125, y 126, y 127, y 128, y 129, y 130, y 131, y 132, y 133, y 134, y 135, y 136, y 137, y 138, y 139, y 140, y 141, y 142, y 143, y 144, y 145, y 146, y 147, y 148, y 149, y 150, y 151, y 152, y 153, y 154, y 155, y 156, y 157, y 158, y 159, y 160, y 161, y 162, y 163, y 164, y 165, y 166, y 167, y 168, y 169, y 170, y 171, y 172, y 173, y 174, y 175, y 176, y 177, y 178, y 179, y 180, y 181, y 182, y 183, y 184, y 185, y 186, y 187, y 188, y 189, y 190, y 191, y 192, y 193, y 194, y 195, y 196, y 197, y 198, y 199, y 200, y 201, y 202, y 203, y 204, y 205, y 206, y 207, y 208, y 209, y 210, y 211, y 212, y 213, y 214, y 215, y 216, y 217, y 218, y 219, y 220, y 221, y 222, y 223, y 224, y 225, y 226, y 227, y 228, y 229, y 230, y 231, y 232, y 233, y 234, y 235, y 236, y 237, y 238, y 239, y 240, y 241, y 242, y 243, y 244, y 245, y 246, y 247, y 248, y 249, y 250, y 251, y 252, y 253, y 254, y 255, y 256, y 257, y 258, y 259, y 260, y 261, y 262, y 263, y 264, y 265, y 266, y 267, y 268, y 269, y 270, y 271] := rfl
def frD (ts : Nat → Int × Int) (i : Nat) : Nat := pk (ts i).1 30
def ttD (ts : Nat → Int × Int) (i : Nat) : Nat := pk (ts i).1 30 + pk (ts i).2 10
def raD (ts : Nat → Int × Int) (i : Nat) : Nat := 1 + pk ((ts i).2.tdiv 10) 4
def winD (ts : Nat → Int × Int) (n : Nat) : Wins := ⟨n, frD ts, ttD ts, raD ts⟩
theorem winD_ok (ts : Nat → Int × Int) (n : Nat) (hn : n ≤ 6) : WinOk (winD ts n) := by
  refine ⟨hn, fun i _ => Nat.le_add_right _ _, fun i _ => ?_, fun i _ => ?_⟩
  · have h1 := pk_lt (ts i).1 30 (by decide)
    have h2 := pk_lt (ts i).2 10 (by decide)
    show pk (ts i).1 30 + pk (ts i).2 10 ≤ 1000
    omega
  · have h1 := pk_lt ((ts i).2.tdiv 10) 4 (by decide)
    show 1 + pk ((ts i).2.tdiv 10) 4 ≤ 1000
    omega
structure SDl (y : Nat → Value) (ra : Option Addr) (rn rc : Nat) (ja : Option Addr) (jn jc : Nat) (za : Option Addr) (ln zc : Nat) (wv : Value) (RB i : Nat) : Prop where
  s0 : y 0 = .slice ra rn rc
  s1 : y 1 = .slice ja jn jc
  s2 : y 2 = .slice za ln zc
  s7 : y 7 = wv
  s8 : y 8 = .slice (some ⟨RB, 0, none⟩) 40 40
  s9 : y 9 = .int .i64 (i : Int)
theorem tdiv10 (x : Int) (h : I64 x) : -9223372036854775808 ≤ x.tdiv 10 ∧ x.tdiv 10 ≤ 9223372036854775807 := by
  obtain ⟨t1, t2⟩ := h
  rcases Int.le_total 0 x with h | h
  · rw [Int.tdiv_eq_ediv_of_nonneg h]; omega
  · have : x.tdiv 10 = -((-x).tdiv 10) := by rw [Int.neg_tdiv, Int.neg_neg]
    rw [this, Int.tdiv_eq_ediv_of_nonneg (by omega)]
    omega
def RatI (W1 : World) (ra : Option Addr) (rn rc : Nat) (ja : Option Addr) (jn jc : Nat) (za : Option Addr) (ln zc : Nat) (wa : Option Addr) (wn wc : Nat) (RB i f t1 v : Nat) (g : Nat → Nat) (y : Nat → Value) (W : World) : Prop :=
  ∃ t : Nat, f ≤ t ∧ t ≤ t1 ∧ SDl y ra rn rc ja jn jc za ln zc (.slice wa wn wc) RB i ∧ y 11 = .int .i64 (t1 : Int) ∧ y 12 = .int .i64 (t : Int) ∧ Gn W RB 40 (fun u => ((g u + if f ≤ u ∧ u < t then v else 0 : Nat) : Int)) ∧ Gb RB W1 W
set_option maxRecDepth 1000000 in
set_option maxHeartbeats 4000000 in
theorem dl_r (w0 W1 : World) (ra : Option Addr) (rn rc : Nat) (ts : Nat → Int × Int) (ja : Option Addr) (jn jc : Nat) (za : Option Addr) (ln zc : Nat) (wa : Option Addr) (wn wc : Nat) (RB i f t1 : Nat) (g : Nat → Nat) (hir : i < rn) (hR : RawAt w0 ra rn rc ts) (hb : Below w0.heap.size w0 W1) (hRB : w0.heap.size ≤ RB) (hft : f ≤ t1) (ht1 : t1 ≤ 39) (hg : ∀ u, g u ≤ 100000) (hG : Gn W1 RB 40 (fun u => (g u : Int))) :
    Tri Try.prog 272 (pieceOf Try.f3 [1, 1, 1, 0, 1, 0, 0, 1, 0, 0, 1, 1, 1, 1]) (fun y w => SDl y ra rn rc ja jn jc za ln zc (.slice wa wn wc) RB i ∧ y 11 = .int .i64 (t1 : Int) ∧ y 12 = .int .i64 (f : Int) ∧ w = W1)
      (fun _ _ y w => SDl y ra rn rc ja jn jc za ln zc (.slice wa wn wc) RB i ∧ Gn w RB 40 (fun u => ((g u + if f ≤ u ∧ u < t1 then raD ts i else 0 : Nat) : Int)) ∧ Gb RB W1 w) := by
  rintro Q y w ⟨⟨s0, s1, s2, s7, s8, s9⟩, s11, s12, rfl⟩ hQ
  have HQ := hid hQ
  have HR := hid hR
  have HB := hid hb
  have HG := hid (hG.congr (g' := fun u => ((g u + if f ≤ u ∧ u < f then raD ts i else 0 : Nat) : Int)) (fun u _ => by
    show (g u : Int) = ((g u + if f ≤ u ∧ u < f then raD ts i else 0 : Nat) : Int)
    rw [if_neg (by omega)]; rfl))
  have Hgb := hid hg
  have hrm := Nat.le_trans hR.le hR.max
  unfold maxLen at hrm
  obtain ⟨rb, ro, rfl, hrl, hrc⟩ := hR.mem (by omega)
  obtain ⟨_, c1⟩ := hrc i hir
  obtain ⟨_, t1b⟩ := hR.bd i hir
  have x3 := tdiv10 _ t1b
  have q3 : IntKind.i64.wrap ((ts i).2.tdiv 10) = (ts i).2.tdiv 10 := IntWalk.i64_in _ (by omega)
  have hpB := hid (fun W => pick_st ((ts i).2.tdiv 10) 4 W x3.1 x3.2 (by decide) (by decide))
  have hpl := pk_lt ((ts i).2.tdiv 10) 4 (by decide)
  have hv : Hid (raD ts i = 1 + pk ((ts i).2.tdiv 10) 4) := rfl
  generalize raD ts i = v at *
  obtain ⟨pk4, hpk4⟩ : ∃ p, pk ((ts i).2.tdiv 10) 4 = p := ⟨_, rfl⟩
  rw [hpk4] at hpl hv
  have Hpk := hid hpk4
  clear hQ hR hb hG hrc t1b hg hpk4
  conv => arg 2; whnf
  rw [fr272]
  simp only [s0, s1, s2, s7, s8, s9, s11, s12]
  clear s0 s1 s2 s7 s8 s9 s11 s12
  refine wp_block ?_
  refine wp_loop_fr 272 (RatI w (some ⟨rb, ro, none⟩) rn rc ja jn jc za ln zc wa wn wc RB i f t1 v g) (fun y' _ => t1 - (intOf (y' 12)).toNat) ⟨rfl, rfl, f, Nat.le_refl _, hft, ⟨rfl, rfl, rfl, rfl, rfl, rfl⟩, rfl, rfl, HG.out, Gb.refl _ _⟩ ?_
  clear HG
  rintro z W ⟨t, hf, ht, ⟨s0, s1, s2, s7, s8, s9⟩, s11, s12, hG, hgb⟩
  have HG := hid hG
  have HGb := hid hgb
  rw [fr272]
  simp only [s0, s1, s2, s7, s8, s9, s11, s12]
  clear s0 s1 s2 s7 s8 s9 s11 s12
  by_cases hlt : t < t1
  · have d1 : decide ((t : Int) < (t1 : Int)) = true := decide_eq_true (by omega)
    have d2 : decide (t < t1) = true := decide_eq_true hlt
    have ht40 : (t : Int) < 40 := by omega
    have hlg := hG.lt
    obtain ⟨cg, fg⟩ := hG.cell t (by omega)
    rw [if_neg (by omega), Nat.add_zero] at cg
    have hgt := Hgb.out t
    obtain ⟨gt_, hgt_⟩ : ∃ x, g t = x := ⟨_, rfl⟩
    rw [hgt_] at cg hgt
    have Hgt := hid hgt_
    have hd : Below W.heap.size W W.drew := (Below.refl _ W).drew
    have e0 : ∀ w', Below W.heap.size W.drew w' → w'.cell? ⟨RB, t, none⟩ = some (.int .i64 (gt_ : Int)) := fun w' hw => ((hd.trans hw).cell (p := ⟨RB, t, none⟩) hlg).trans cg
    have hwr : W.cell? ⟨rb, ro + i * 2 + 1, none⟩ = some (.int .i64 (ts i).2) := by
      have h1 : w.cell? ⟨rb, ro + i * 2 + 1, none⟩ = some (.int .i64 (ts i).2) := (HB.out.cell (p := ⟨rb, ro + i * 2 + 1, none⟩) hrl).trans c1
      have h2 := HGb.out.block rb (Nat.lt_of_lt_of_le hrl HB.out.size) (fun e => by cases e; omega)
      exact (World.cell?_of_block h2).trans h1
    have hrW : rb < W.heap.size := Nat.lt_of_lt_of_le hrl (Nat.le_trans HB.out.size hgb.size)
    have e1 : ∀ w', Below W.heap.size W.drew w' → w'.cell? ⟨rb, ro + i * 2 + 1, none⟩ = some (.int .i64 (ts i).2) := fun w' hw => ((hd.trans hw).cell (p := ⟨rb, ro + i * 2 + 1, none⟩) hrW).trans hwr
    obtain ⟨hs1, hs2⟩ := hG.set t (by omega) ((gt_ + v : Nat) : Int)
    have HN : Hid (Gn (W.drew.setCell ⟨RB, t, none⟩ (.int .i64 ((gt_ + v : Nat) : Int))) RB 40 (fun u => ((g u + if f ≤ u ∧ u < t + 1 then v else 0 : Nat) : Int)) ∧ Gb RB w (W.drew.setCell ⟨RB, t, none⟩ (.int .i64 ((gt_ + v : Nat) : Int)))) := by
      obtain ⟨h3, h4⟩ := (hG.below hd).set t (by omega) ((gt_ + v : Nat) : Int)
      refine ⟨h3.congr (fun u _ => ?_), grownBy_trans (grownBy_trans hgb (grownBy_drew _ _)) h4⟩
      by_cases e : u = t
      · subst e
        rw [if_pos rfl, if_pos (by omega), hgt_]
      · rw [if_neg e]
        by_cases e2 : f ≤ u ∧ u < t
        · rw [if_pos e2, if_pos (by omega)]
        · rw [if_neg e2, if_neg (by omega)]
    have cd : W.drew.cell? ⟨RB, t, none⟩ = some (.int .i64 (gt_ : Int)) := cg
    have fd : W.drew.frozen? ⟨RB, t, none⟩ = false := fg
    clear hs1 hs2 hG hgb hwr hgt_ cg fg hd
    obtain ⟨s, hs⟩ : ∃ s, s = gt_ + v := ⟨_, rfl⟩
    rw [← hs] at HN
    have a1 : (1 : Int) + (pk4 : Int) = (v : Int) := by have := hv.out; omega
    have a2 : (gt_ : Int) + (v : Int) = (s : Int) := by omega
    have w1 : IntKind.i64.wrap (v : Int) = (v : Int) := IntWalk.i64_in _ (by have := hv.out; omega)
    have w2 : IntKind.i64.wrap (s : Int) = (s : Int) := IntWalk.i64_in _ (by have := hv.out; omega)
    have HP : Hid (∀ W, Calls Try.prog 5 #[.int .i64 ((ts i).2.tdiv 10), .int .i64 4] W fun e w' => e = .returned (.int .i64 (pk4 : Int)) ∧ w' = W) := fun W => by
      have := hpB.out W
      rw [show (4 : Int).toNat = 4 from rfl, Hpk.out] at this
      exact this
    clear hpB hs
    generalize (ts i).2 = bi at *
    go_upto_block 3 with (fail)
    refine wp_block ?_
    refine wp_region_late [14] [10, 14] [(true, [0, 1, 2, 3, 4, 5, 6, 7, 8, 9, 10, 11, 12, 13]), (false, [14])] (Below W.heap.size) (fun _ _ => True) (fun _ => Below.refl _ _) (fun _ _ _ h k => h.trans k) (fun _ => trivial) (fun _ _ _ _ _ => trivial) (fun _ _ _ => trivial) (by kernel_rfl) (by kernel_rfl) ?_
    simp only [wpPh, List.map_cons, List.map_nil, List.contains_cons, List.contains_nil, List.getD_cons_zero, List.getD_cons_succ, Nat.reduceBEq, Bool.or_false, Bool.or_true]
    generalize W.drew = U at *
    iterate 10 (refine wpL_do rfl (fun w' hw' => (by go_simp; rfl)) ?_; simp only [Act.put, List.setIfInBounds_toArray, List.set_cons_succ, List.set_cons_zero])
    refine wpL_call rfl (fun K hK => ?_)
    go_wp2_with fail
    refine (HP.out _).mono ?_
    rintro e w' ⟨rfl, hw'⟩
    rw [hw']
    clear hw' w'
    refine hK _ _ (Below.refl _ _) ?_
    clear hK K
    try simp only [Act.put, List.setIfInBounds_toArray, List.set_cons_succ, List.set_cons_zero]
    iterate 3 (refine wpL_do rfl (fun w' hw' => (by go_simp; rfl)) ?_; simp only [Act.put, List.setIfInBounds_toArray, List.set_cons_succ, List.set_cons_zero])
    refine wpL_nil ?_
    refine wpL_call rfl (fun K hK => ?_)
    go_wp2_with fail
    refine hK _ _ trivial ?_
    clear hK K e0 e1
    try simp only [Act.put, List.setIfInBounds_toArray, List.set_cons_succ, List.set_cons_zero]
    refine wpL_nil ?_
    go_wp2_with fail
    refine ⟨rfl, rfl, ⟨t + 1, by omega, by omega, ⟨rfl, rfl, rfl, rfl, rfl, rfl⟩, rfl, ?_, HN.out.1, HN.out.2⟩, ?_⟩
    · show Value.int .i64 _ = Value.int .i64 _
      go_num
    · show t1 - (intOf (Value.int .i64 _)).toNat < _
      simp [intOf]
      omega
  · obtain rfl : t = t1 := by omega
    have d1 : decide ((t : Int) < (t : Int)) = false := decide_eq_false (by omega)
    clear hG hgb
    go_wp2_with fail
    exact q_fr (N := 272) HQ.out rfl ⟨⟨rfl, rfl, rfl, rfl, rfl, rfl⟩, HG.out, HGb.out⟩
end Go.Proofs.Ytfbchmihkndfaaa
/- PassesDue: the law: the loop over windows. -/
namespace Go.Proofs.Ytfbchmihkndfaaa
set_option linter.unusedVariables false
open Go.RowKit

theorem Try.info29 : (Try.prog.info? 29).map (fun i => (i.zero, i.size, i.bytes)) = some (some (.agg #[.int .i64 0, .int .i64 0, .int .i64 0]), 3, 24) := by kernel_rfl
theorem jcs_succ (F Y N : Nat → Nat) (m : Nat) : jcs F Y N (m + 1) = jcs F Y N m ++ [.int .i64 (F m : Int), .int .i64 (Y m : Int), .int .i64 (N m : Int)] := by
  unfold jcs
  rw [show (m + 1) * 3 = m * 3 + 1 + 1 + 1 by omega, List.range_succ, List.range_succ, List.range_succ]
  simp only [List.map_append, List.map_cons, List.map_nil, List.append_assoc, List.singleton_append]
  have h0 : jcell F Y N (m * 3) = .int .i64 (F m : Int) := by unfold jcell; rw [if_pos (by omega), show m * 3 / 3 = m by omega]
  have h1 : jcell F Y N (m * 3 + 1) = .int .i64 (Y m : Int) := by unfold jcell; rw [if_neg (by omega), if_pos (by omega), show (m * 3 + 1) / 3 = m by omega]
  have h2 : jcell F Y N (m * 3 + 1 + 1) = .int .i64 (N m : Int) := by unfold jcell; rw [if_neg (by omega), if_neg (by omega), show (m * 3 + 1 + 1) / 3 = m by omega]
  rw [h0, h1, h2]
  rfl
theorem tri_new (U : World) (a b c : Int) (t : TypeId) : ∀ (k : Nat) (x : Value), [Value.int .i64 a, .int .i64 b, .int .i64 c][k]? = some x → (U.alloc (.cells #[.int .i64 a, .int .i64 b, .int .i64 c] t)).cell? ((⟨U.heap.size, 0, none⟩ : Addr).add k) = some x := new_cells U [Value.int .i64 a, .int .i64 b, .int .i64 c] t
theorem tri_one (a b c : Int) : ∀ u ∈ [Value.int .i64 a, .int .i64 b, .int .i64 c], u.oneCell' = true := by
  intro u hu
  simp only [List.mem_cons, List.not_mem_nil, or_false] at hu
  rcases hu with rfl | rfl | rfl <;> rfl
/-- rows of threes read -/
theorem own_three {W : World} {B e n cap : Nat} {la : Option Addr} {F Y N : Nat → Nat} (h : W.ownsRow B e 3 (.slice la n cap) n (jcs F Y N n)) : n ≤ cap ∧ cap ≤ maxLen ∧ (0 < n → ∃ b, la = some ⟨b, 0, none⟩ ∧ b < W.heap.size ∧ (∃ cs : Array Value, W.heap[b]? = some (.cells cs e) ∧ ∀ i, i < n → cs[i * 3]? = some (.int .i64 (F i : Int)) ∧ cs[i * 3 + 1]? = some (.int .i64 (Y i : Int)) ∧ cs[i * 3 + 2]? = some (.int .i64 (N i : Int)))) := by
  have h' := h
  rcases h.2 with ⟨h3, h0⟩ | ⟨g1, cap1, cur, h3, h4, h5, h6, h7, _⟩
  · cases h3
    exact ⟨by omega, by unfold maxLen; omega, fun h => by omega⟩
  · cases h3
    refine ⟨h6, h7, fun hn => ⟨g1, rfl, row_lt h5, cur, h5, fun i hi => ?_⟩⟩
    obtain ⟨g0, g1', g2⟩ := jcs_get F Y N n i hi
    have hc : ∀ j, j < n * 3 → cur[j]? = (jcs F Y N n)[j]? := fun j hj => by
      have := h'.cellAt j hj
      rwa [cell_of_row _ _ _ _ _ _ h5] at this
    exact ⟨(hc _ (by omega)).trans g0, (hc _ (by omega)).trans g1', (hc _ (by omega)).trans g2⟩
def DlI (w0 : World) (B : Nat) (ra : Option Addr) (rn rc : Nat) (ts : Nat → Int × Int) (ja : Option Addr) (jn jc : Nat) (za : Option Addr) (ln zc RB : Nat) (y : Nat → Value) (W : World) : Prop :=
  ∃ i wa wc, i ≤ min rn 6 ∧ (i = 0 → wa = none ∧ wc = 0) ∧ SDl y ra rn rc ja jn jc za ln zc (.slice wa i wc) RB i ∧ W.ownsRow B 29 3 (.slice wa i wc) i (jcs (frD ts) (ttD ts) (raD ts) i) ∧ Gn W RB 40 (fun u => (((winD ts (min rn 6)).rt i u : Nat) : Int)) ∧ Below w0.heap.size w0 W ∧ B ≤ W.heap.size
set_option maxRecDepth 1000000 in
set_option maxHeartbeats 4000000 in
/-- one window -/
theorem dl_w (w0 W1 : World) (B : Nat) (ra : Option Addr) (rn rc : Nat) (ts : Nat → Int × Int) (ja : Option Addr) (jn jc : Nat) (za : Option Addr) (ln zc : Nat) (wa : Option Addr) (i wc RB : Nat) (hir : i < rn) (hi6 : i < 6) (hR : RawAt w0 ra rn rc ts) (hb : Below w0.heap.size w0 W1) (hB : B ≤ W1.heap.size) (hwB : w0.heap.size ≤ B)
    (ho : W1.ownsRow B 29 3 (.slice wa i wc) i (jcs (frD ts) (ttD ts) (raD ts) i)) :
    Tri Try.prog 272 (pieceOf Try.f3 [1, 1, 1, 0, 1, 0, 0, 1, 0, 0, 1, 1, 0]) (fun y w => SDl y ra rn rc ja jn jc za ln zc (.slice wa i wc) RB i ∧ y 10 = .int .i64 (frD ts i : Nat) ∧ y 11 = .int .i64 (ttD ts i : Nat) ∧ w = W1)
      (fun _ _ y w => ∃ wa' wc', SDl y ra rn rc ja jn jc za ln zc (.slice wa' (i + 1) wc') RB i ∧ y 10 = .int .i64 (frD ts i : Nat) ∧ y 11 = .int .i64 (ttD ts i : Nat) ∧ w.ownsRow B 29 3 (.slice wa' (i + 1) wc') (i + 1) (jcs (frD ts) (ttD ts) (raD ts) (i + 1)) ∧ Below w0.heap.size w0 w ∧ Below B W1 w) := by
  rintro Q y w ⟨⟨s0, s1, s2, s7, s8, s9⟩, s10, s11, rfl⟩ hQ
  have HQ := hid hQ
  obtain ⟨i29, hi29, hz29, hs29, hb29⟩ := info_parts Try.info29
  have hrm := Nat.le_trans hR.le hR.max
  unfold maxLen at hrm
  obtain ⟨rb, ro, rfl, hrl, hrc⟩ := hR.mem (by omega)
  obtain ⟨_, c1⟩ := hrc i hir
  have c1 : w.cell? ⟨rb, ro + i * 2 + 1, none⟩ = some (.int .i64 (ts i).2) := (hb.cell (p := ⟨rb, ro + i * 2 + 1, none⟩) hrl).trans c1
  obtain ⟨_, t1b⟩ := hR.bd i hir
  have x3 := tdiv10 _ t1b
  have q3 : IntKind.i64.wrap ((ts i).2.tdiv 10) = (ts i).2.tdiv 10 := IntWalk.i64_in _ (by omega)
  have hpB := fun W => pick_st ((ts i).2.tdiv 10) 4 W x3.1 x3.2 (by decide) (by decide)
  rw [show (4 : Int).toNat = 4 from rfl] at hpB
  have hpl := pk_lt ((ts i).2.tdiv 10) 4 (by decide)
  have hv : raD ts i = 1 + pk ((ts i).2.tdiv 10) 4 := rfl
  have Hjs := hid (jcs_succ (frD ts) (ttD ts) (raD ts) i)
  have HB0 := hid hb
  have Ho := hid ho
  generalize jcs (frD ts) (ttD ts) (raD ts) (i + 1) = xs1 at *
  generalize jcs (frD ts) (ttD ts) (raD ts) i = xs at *
  generalize pk ((ts i).2.tdiv 10) 4 = pk4 at *
  generalize frD ts i = f at *
  generalize ttD ts i = t1 at *
  generalize raD ts i = v at *
  have a1 : (1 : Int) + (pk4 : Int) = (v : Int) := by omega
  have w1 : IntKind.i64.wrap (v : Int) = (v : Int) := IntWalk.i64_in _ (by omega)
  generalize (ts i).2 = bi at *
  clear hQ hR hb hrc t1b hv ho
  conv => arg 2; whnf
  rw [fr272]
  simp only [s0, s1, s2, s7, s8, s9, s10, s11]
  clear s0 s1 s2 s7 s8 s9 s10 s11
  go_wp2_with fail
  refine (hpB _).mono ?_
  rintro e w' ⟨rfl, hw'⟩
  rw [hw']
  clear hw' w' hpB
  have b2 := below_alloc w (.cells #[.int .i64 (f : Int), .int .i64 (t1 : Int), .int .i64 (v : Int)] 29)
  have hnew := tri_new w (f : Int) (t1 : Int) (v : Int) 29
  have h3 := tri_one (f : Int) (t1 : Int) (v : Int)
  have Ho2 := hid (ownsRow_below Ho.out b2)
  have hB2 := hid (Nat.le_trans hB b2.size)
  have HB2 := hid (HB0.out.trans (b2.mono HB0.out.size))
  have HB3 := hid (b2.mono hB)
  clear b2
  go_wp2_with (at_builtin; refine hold ?_)
  unfold Hid
  refine wpList_append_own _ rfl _ _ 24 rfl B 29 i29 _ 3 24 Try.underlying24 hi29 hz29 hs29 hb29 rfl (by decide) (.slice wa i wc) i xs rfl Ho2.out ⟨w.heap.size, 0, none⟩ 1 1 [Value.int .i64 (f : Int), .int .i64 (t1 : Int), .int .i64 (v : Int)] rfl rfl hnew h3 (by unfold maxLen; omega) (by omega) hB2.out ?_
  intro v12 w12 o12 g12 _
  obtain ⟨la2, cap2, rfl, hc1, hc2, hc3⟩ := own_form o12
  have O12 := hid o12
  have G12 := hid g12
  have HF := hid (HB2.out.grown g12 (by have := hB2.out; omega) (fun j hj => by have := (Ho2.out.lt j hj).1; omega))
  have HF2 := hid (HB3.out.grown g12 hB2.out (fun j hj => (Ho2.out.lt j hj).1))
  clear o12 g12 hnew h3
  go_wp2_with fail
  refine q_fr (N := 272) HQ.out rfl ⟨la2, cap2, ⟨rfl, rfl, rfl, rfl, rfl, rfl⟩, rfl, rfl, ?_, HF.out, HF2.out⟩
  rw [Hjs.out]
  exact O12.out
end Go.Proofs.Ytfbchmihkndfaaa
