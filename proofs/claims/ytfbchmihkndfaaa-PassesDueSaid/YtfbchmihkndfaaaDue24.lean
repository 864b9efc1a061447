/- PassesDue: the law: the loop over windows, joined. -/
import Derived.Test.YtfbchmihkndfaaaDue23
namespace Go.Proofs.Ytfbchmihkndfaaa
set_option linter.unusedVariables false
open Go.RowKit

theorem gn_blw {W W' : World} {B RB m : Nat} {g : Nat → Int} (h : Gn W RB m g) (hb : Below B W W') (hB : RB < B) : Gn W' RB m g := by
  obtain ⟨cs, h1, h2⟩ := h.ex
  exact ⟨cs, (hb.block RB hB).trans h1, h2⟩
theorem frD_lt (ts : Nat → Int × Int) (i : Nat) : frD ts i ≤ 29 := by
  have := pk_lt (ts i).1 30 (by decide)
  unfold frD
  omega
theorem ttD_lt (ts : Nat → Int × Int) (i : Nat) : frD ts i ≤ ttD ts i ∧ ttD ts i ≤ 38 := by
  have := pk_lt (ts i).1 30 (by decide)
  have := pk_lt (ts i).2 10 (by decide)
  unfold frD ttD
  omega
set_option maxRecDepth 1000000 in
set_option maxHeartbeats 4000000 in
theorem dl_a (w0 W1 : World) (B : Nat) (ra : Option Addr) (rn rc : Nat) (ts : Nat → Int × Int) (ja : Option Addr) (jn jc : Nat) (za : Option Addr) (ln zc RB : Nat) (hR : RawAt w0 ra rn rc ts) (hb : Below w0.heap.size w0 W1) (hB : B ≤ W1.heap.size) (hwB : w0.heap.size ≤ RB) (hRB : RB < B) (hG : Gn W1 RB 40 (fun _ => 0)) :
    Tri Try.prog 272 (pieceOf Try.f3 [1, 1, 1, 0, 1]) (fun y w => SDl y ra rn rc ja jn jc za ln zc (.slice none 0 0) RB 0 ∧ w = W1)
      (fun _ _ y w => ∃ wa wc, (min rn 6 = 0 → wa = none ∧ wc = 0) ∧ SDl y ra rn rc ja jn jc za ln zc (.slice wa (min rn 6) wc) RB (min rn 6) ∧ w.ownsRow B 29 3 (.slice wa (min rn 6) wc) (min rn 6) (jcs (frD ts) (ttD ts) (raD ts) (min rn 6)) ∧ Gn w RB 40 (fun u => (((winD ts (min rn 6)).rt (min rn 6) u : Nat) : Int)) ∧ Below w0.heap.size w0 w ∧ B ≤ w.heap.size) := by
  rintro Q y w ⟨⟨s0, s1, s2, s7, s8, s9⟩, rfl⟩ hQ
  have HQ := hid hQ
  have HR := hid hR
  have hrm := Nat.le_trans hR.le hR.max
  unfold maxLen at hrm
  have HG := hid (hG.congr (g' := fun u => (((winD ts (min rn 6)).rt 0 u : Nat) : Int)) (fun _ _ => rfl))
  have HB := hid hb
  clear hQ hR hG hb
  conv => arg 2; whnf
  rw [fr272]
  simp only [s0, s1, s2, s7, s8, s9]
  clear s0 s1 s2 s7 s8 s9
  refine wp_block ?_
  refine wp_loop_fr 272 (DlI w0 B ra rn rc ts ja jn jc za ln zc RB) (fun y' _ => 6 - (intOf (y' 9)).toNat) ⟨rfl, rfl, 0, none, 0, Nat.zero_le _, (fun _ => ⟨rfl, rfl⟩), ⟨rfl, rfl, rfl, rfl, rfl, rfl⟩, ⟨rfl, .inl ⟨rfl, rfl⟩⟩, HG.out, HB.out, hB⟩ ?_
  clear HG HB hB
  rintro z W ⟨i, wa, wc, hi, hi0, ⟨s0, s1, s2, s7, s8, s9⟩, ho, hG, hb, hB⟩
  have Hi0 := hid hi0
  have HO := hid ho
  have HG := hid hG
  have HB := hid hb
  have HBB := hid hB
  clear hi0 ho hG hb hB
  rw [fr272]
  simp only [s0, s1, s2, s7, s8, s9]
  clear s0 s1 s2 s7 s8 s9
  by_cases hlt : i < rn ∧ i < 6
  · obtain ⟨hl1, hl2⟩ := hlt
    have d1 : decide ((i : Int) < (rn : Int)) = true := decide_eq_true (by omega)
    have d2 : decide ((i : Int) < 6) = true := decide_eq_true (by omega)
    have d3 : decide (i < rn) = true := decide_eq_true hl1
    have d4 : decide (i < 6) = true := decide_eq_true hl2
    have hw := hid (dl_w w0 W B ra rn rc ts ja jn jc za ln zc wa i wc RB hl1 hl2 HR.out HB.out HBB.out (by omega) HO.out)
    have hrr := hid (fun W2 wa2 wc2 (h : Below w0.heap.size w0 W2) (hg : Gn W2 RB 40 (fun u => (((winD ts (min rn 6)).rt i u : Nat) : Int))) => dl_r w0 W2 ra rn rc ts ja jn jc za ln zc wa2 (i + 1) wc2 RB i (frD ts i) (ttD ts i) (fun u => (winD ts (min rn 6)).rt i u) hl1 HR.out h hwB (ttD_lt ts i).1 (by have := (ttD_lt ts i).2; omega) (fun u => by
      have h1 := (winD ts (min rn 6)).rt_bd (winD_ok ts _ (Nat.min_le_right _ _)).ra i (by show i ≤ min rn 6; omega) u
      omega) hg)
    obtain ⟨rb, ro, rfl, hrl, hrc⟩ := HR.out.mem (by omega)
    obtain ⟨c0, c1⟩ := hrc i hl1
    have c0 : W.cell? ⟨rb, ro + i * 2, none⟩ = some (.int .i64 (ts i).1) := (HB.out.cell (p := ⟨rb, ro + i * 2, none⟩) hrl).trans c0
    have c1 : W.cell? ⟨rb, ro + i * 2 + 1, none⟩ = some (.int .i64 (ts i).2) := (HB.out.cell (p := ⟨rb, ro + i * 2 + 1, none⟩) hrl).trans c1
    obtain ⟨⟨t1, t2⟩, t3, t4⟩ := HR.out.bd i hl1
    have hp1 := pick_st (ts i).1 30 W t1 t2 (by decide) (by decide)
    have hp2 := pick_st (ts i).2 10 W t3 t4 (by decide) (by decide)
    rw [show (30 : Int).toNat = 30 from rfl] at hp1
    rw [show (10 : Int).toNat = 10 from rfl] at hp2
    have hfl := frD_lt ts i
    have htl := ttD_lt ts i
    have a1 : (pk (ts i).1 30 : Int) + (pk (ts i).2 10 : Int) = (ttD ts i : Int) := by unfold ttD; omega
    have hfe : pk (ts i).1 30 = frD ts i := rfl
    rw [hfe] at hp1 a1
    have HN : Hid (∀ W' : World, Gn W' RB 40 (fun u => (((winD ts (min rn 6)).rt i u + if frD ts i ≤ u ∧ u < ttD ts i then raD ts i else 0 : Nat) : Int)) → Gn W' RB 40 (fun u => (((winD ts (min rn 6)).rt (i + 1) u : Nat) : Int))) := fun W' h => h
    clear hrc t1 t2 t3 t4 hfe
    have hp2l := pk_lt (ts i).2 10 (by decide)
    generalize pk (ts i).2 10 = p2 at *
    generalize (ts i).1 = ti at *
    generalize (ts i).2 = tj at *
    generalize frD ts i = f at *
    generalize ttD ts i = t1 at *
    generalize raD ts i = v at *
    have w1 : IntKind.i64.wrap (t1 : Int) = (t1 : Int) := IntWalk.i64_in _ (by omega)
    go_upto_block 1 with (fail)
    refine wp_block ?_
    refine wp_seq_k (fun K1 hK1 => ?_)
    go_wp2_with fail
    refine hp1.mono ?_
    rintro e w' ⟨rfl, hw'⟩
    rw [hw']
    clear hw' w' hp1 c0
    go_wp2_with fail
    refine hK1.out _ _ ?_
    refine wp_seq_k (fun K2 hK2 => ?_)
    go_wp2_with fail
    refine hp2.mono ?_
    rintro e w' ⟨rfl, hw'⟩
    rw [hw']
    clear hw' w' hp2 c1
    go_wp2_with fail
    refine hK2.out _ _ ?_
    clear a1
    refine wp_seq_k (fun K3 hK3 => ?_)
    refine Tri.use hw.out rfl ⟨⟨rfl, rfl, rfl, rfl, rfl, rfl⟩, rfl, rfl, rfl⟩ ?_
    rintro y5 W5 ⟨wa5, wc5, ⟨s0, s1, s2, s7, s8, s9⟩, s10, s11, ho5, hb5, hb5'⟩
    refine hK3.out _ _ ?_
    have HG5 := hid (gn_blw HG.out hb5' hRB)
    have HO5 := hid ho5
    have HB5 := hid hb5
    have HBB5 := hid (Nat.le_trans HBB.out hb5'.size)
    have hr5 := hid (hrr.out W5 wa5 wc5 hb5 HG5.out)
    clear ho5 hb5 hb5' hw hrr HG HO HB HBB
    rw [fr272]
    simp only [s0, s1, s2, s7, s8, s9, s10, s11]
    clear s0 s1 s2 s7 s8 s9 s10 s11
    refine wp_seq_k (fun K4 hK4 => ?_)
    go_wp2_with fail
    refine hK4.out _ _ ?_
    refine Tri.use hr5.out rfl ⟨⟨rfl, rfl, rfl, rfl, rfl, rfl⟩, rfl, rfl, rfl⟩ ?_
    rintro y6 W6 ⟨⟨s0, s1, s2, s7, s8, s9⟩, hg6, hgb6⟩
    have HG6 := hid (HN.out W6 hg6)
    have HO6 := hid (HO5.out.kept hgb6 (by
      rcases h : (Value.slice wa5 (i + 1) wc5).ownBlock with _ | k
      · exact .inl rfl
      · have := (HO5.out.lt k h).1
        exact .inr (fun e => by cases e; omega)))
    have HB6 := hid (HB5.out.grown hgb6 HB5.out.size (fun k e => by cases e; exact hwB))
    have HBB6 := hid (Nat.le_trans HBB5.out hgb6.size)
    clear hg6 hgb6 hr5 HN HO5 HB5 HBB5 HG5
    rw [fr272]
    simp only [s0, s1, s2, s7, s8, s9]
    clear s0 s1 s2 s7 s8 s9
    go_wp2_with fail
    refine ⟨rfl, rfl, ⟨i + 1, wa5, wc5, by omega, fun h => by omega, ⟨rfl, rfl, rfl, rfl, rfl, ?_⟩, HO6.out, HG6.out, HB6.out, HBB6.out⟩, ?_⟩
    · show Value.int .i64 _ = Value.int .i64 _
      go_num
    · show 6 - (intOf (Value.int .i64 _)).toNat < _
      simp [intOf]
      omega
  · obtain rfl : i = min rn 6 := by omega
    by_cases hl1 : min rn 6 < rn
    · have h9 : min rn 6 = 6 := by omega
      have d1 : decide (((min rn 6 : Nat) : Int) < (rn : Int)) = true := decide_eq_true (by omega)
      have d2 : decide (((min rn 6 : Nat) : Int) < 6) = false := decide_eq_false (by omega)
      generalize min rn 6 = i at *
      subst h9
      go_wp2_with fail
      exact q_fr (N := 272) HQ.out rfl ⟨wa, wc, Hi0.out, ⟨rfl, rfl, rfl, rfl, rfl, rfl⟩, HO.out, HG.out, HB.out, HBB.out⟩
    · have d1 : decide (((min rn 6 : Nat) : Int) < (rn : Int)) = false := decide_eq_false (by omega)
      generalize min rn 6 = i at *
      go_wp2_with fail
      exact q_fr (N := 272) HQ.out rfl ⟨wa, wc, Hi0.out, ⟨rfl, rfl, rfl, rfl, rfl, rfl⟩, HO.out, HG.out, HB.out, HBB.out⟩
end Go.Proofs.Ytfbchmihkndfaaa
/- PassesDue: the law: the loop over jobs. -/
namespace Go.Proofs.Ytfbchmihkndfaaa
set_option linter.unusedVariables false
open Go.RowKit

def nzD (zs : List Int) (ln i : Nat) : Nat := if i < ln then pk (zs.getD i 0) 12 else 0
theorem nzD_le (zs : List Int) (ln i : Nat) : nzD zs ln i ≤ 12 := by
  unfold nzD
  split
  · have := pk_lt (zs.getD i 0) 12 (by decide); omega
  · omega
theorem jobD_ok (js : Nat → Int × Int) (zs : List Int) (ln m : Nat) (hm : m ≤ 6) : JobOk m (frD js) (ttD js) (nzD zs ln) :=
  ⟨by omega, fun i _ => (ttD_lt js i).1, fun i _ => by have := (ttD_lt js i).2; omega, fun i _ => by have := nzD_le zs ln i; omega⟩
structure SJl (y : Nat → Value) (ja : Option Addr) (jn jc : Nat) (za : Option Addr) (ln zc : Nat) (wa : Option Addr) (wn wc : Nat) (RB : Nat) (jv : Value) (i : Nat) : Prop where
  s1 : y 1 = .slice ja jn jc
  s2 : y 2 = .slice za ln zc
  s7 : y 7 = .slice wa wn wc
  s8 : y 8 = .slice (some ⟨RB, 0, none⟩) 40 40
  s13 : y 13 = jv
  s14 : y 14 = .int .i64 (i : Int)
set_option maxRecDepth 1000000 in
set_option maxHeartbeats 1000000 in
theorem dl_n (w0 W0 : World) (ja : Option Addr) (jn jc : Nat) (za : Option Addr) (ln zc : Nat) (wa : Option Addr) (wn wc RB : Nat) (jv : Value) (i : Nat) (zs : List Int) (f : Nat) (hi : i < 9) (hb : Below w0.heap.size w0 W0) (hz : Rd w0 za ln zc (vz zs)) (hzb : ∀ z ∈ zs, I64 z) :
    Tri Try.prog 272 (pieceOf Try.f3 [1, 1, 1, 1, 1, 0, 1, 0, 0, 1, 0, 0, 1, 1, 0]) (fun y w => SJl y ja jn jc za ln zc wa wn wc RB jv i ∧ y 15 = .int .i64 (f : Int) ∧ y 16 = .int .i64 0 ∧ w = W0)
      (fun _ _ y w => SJl y ja jn jc za ln zc wa wn wc RB jv i ∧ y 15 = .int .i64 (f : Int) ∧ y 16 = .int .i64 (nzD zs ln i : Nat) ∧ w = W0) := by
  rintro Q y w ⟨⟨s1, s2, s7, s8, s13, s14⟩, s15, s16, rfl⟩ hQ
  have HQ := hid hQ
  have hN : Hid (nzD zs ln i = if i < ln then pk (zs.getD i 0) 12 else 0) := rfl
  have hlm : ln ≤ maxLen := Nat.le_trans hz.le hz.max
  unfold maxLen at hlm
  generalize nzD zs ln i = ni at *
  clear hQ
  conv => arg 2; whnf
  rw [fr272]
  by_cases h1 : i < ln
  · obtain ⟨zb, zo, rfl, hzl, hzc⟩ := hz.cellz i h1
    have c0 : w.cell? ⟨zb, zo + i, none⟩ = some (.int .i64 (zs.getD i 0)) := (hb.cell (p := ⟨zb, zo + i, none⟩) hzl).trans hzc
    obtain ⟨g1, g2⟩ := getD_i64 hzb i
    have hp := pick_st (zs.getD i 0) 12 w g1 g2 (by decide) (by decide)
    rw [show (12 : Int).toNat = 12 from rfl] at hp
    rw [if_pos h1] at hN
    generalize pk (zs.getD i 0) 12 = p at *
    generalize zs.getD i 0 = x at *
    have d1 : decide ((i : Int) < (ln : Int)) = true := decide_eq_true (by omega)
    have d2 : decide (i < ln) = true := decide_eq_true h1
    simp only [s1, s2, s7, s8, s13, s14, s15, s16]
    clear s1 s2 s7 s8 s13 s14 s15 s16 hzc g1 g2 hz hzb hb
    go_wp2_with fail
    refine hp.mono ?_
    rintro e w' ⟨rfl, hw'⟩
    rw [hw']
    clear hw' w'
    go_wp2_with fail
    refine q_fr (N := 272) HQ.out rfl ⟨⟨rfl, rfl, rfl, rfl, rfl, rfl⟩, rfl, ?_, rfl⟩
    rw [hN.out]
    rfl
  · rw [if_neg h1] at hN
    have d1 : decide ((i : Int) < (ln : Int)) = false := decide_eq_false (by omega)
    have d2 : decide (i < ln) = false := decide_eq_false h1
    simp only [s1, s2, s7, s8, s13, s14, s15, s16]
    clear s1 s2 s7 s8 s13 s14 s15 s16 h1 hz hzb hb
    go_wp2_with fail
    refine q_fr (N := 272) HQ.out rfl ⟨⟨rfl, rfl, rfl, rfl, rfl, rfl⟩, rfl, ?_, rfl⟩
    rw [hN.out]
    rfl
set_option maxRecDepth 1000000 in
set_option maxHeartbeats 4000000 in
/-- one job -/
theorem dl_j (w0 W1 : World) (B : Nat) (ja : Option Addr) (jn jc : Nat) (js : Nat → Int × Int) (za : Option Addr) (ln zc : Nat) (wa : Option Addr) (wn wc RB : Nat) (zs : List Int) (la : Option Addr) (i lc : Nat) (hir : i < jn) (hi6 : i < 6) (hR : RawAt w0 ja jn jc js) (hb : Below w0.heap.size w0 W1) (hB : B ≤ W1.heap.size)
    (ho : W1.ownsRow B 32 3 (.slice la i lc) i (jcs (frD js) (ttD js) (nzD zs ln) i)) :
    Tri Try.prog 272 (pieceOf Try.f3 [1, 1, 1, 1, 1, 0, 1, 0, 0, 1, 0, 0, 1, 1, 1]) (fun y w => SJl y ja jn jc za ln zc wa wn wc RB (.slice la i lc) i ∧ y 15 = .int .i64 (frD js i : Nat) ∧ y 16 = .int .i64 (nzD zs ln i : Nat) ∧ w = W1)
      (fun _ _ y w => ∃ la' lc', SJl y ja jn jc za ln zc wa wn wc RB (.slice la' (i + 1) lc') i ∧ w.ownsRow B 32 3 (.slice la' (i + 1) lc') (i + 1) (jcs (frD js) (ttD js) (nzD zs ln) (i + 1)) ∧ Below B W1 w) := by
  rintro Q y w ⟨⟨s1, s2, s7, s8, s13, s14⟩, s15, s16, rfl⟩ hQ
  have HQ := hid hQ
  obtain ⟨i32, hi32, hz32, hs32, hb32⟩ := info_parts Try.info32
  have hrm := Nat.le_trans hR.le hR.max
  unfold maxLen at hrm
  obtain ⟨rb, ro, rfl, hrl, hrc⟩ := hR.mem (by omega)
  obtain ⟨_, c1⟩ := hrc i hir
  have c1 : w.cell? ⟨rb, ro + i * 2 + 1, none⟩ = some (.int .i64 (js i).2) := (hb.cell (p := ⟨rb, ro + i * 2 + 1, none⟩) hrl).trans c1
  obtain ⟨_, t3, t4⟩ := hR.bd i hir
  have hpB := fun W => pick_st (js i).2 10 W t3 t4 (by decide) (by decide)
  rw [show (10 : Int).toNat = 10 from rfl] at hpB
  have hpl := pk_lt (js i).2 10 (by decide)
  have hfl := frD_lt js i
  have a1 : (frD js i : Int) + (pk (js i).2 10 : Int) = (ttD js i : Int) := by unfold ttD frD; omega
  have htl := ttD_lt js i
  have Hjs := hid (jcs_succ (frD js) (ttD js) (nzD zs ln) i)
  have HB0 := hid hb
  have Ho := hid ho
  generalize jcs (frD js) (ttD js) (nzD zs ln) (i + 1) = xs1 at *
  generalize jcs (frD js) (ttD js) (nzD zs ln) i = xs at *
  generalize pk (js i).2 10 = p2 at *
  generalize frD js i = f at *
  generalize ttD js i = t1 at *
  generalize nzD zs ln i = v at *
  have w1 : IntKind.i64.wrap (t1 : Int) = (t1 : Int) := IntWalk.i64_in _ (by omega)
  generalize (js i).2 = bi at *
  clear hQ hR hb hrc t3 t4 ho
  conv => arg 2; whnf
  rw [fr272]
  simp only [s1, s2, s7, s8, s13, s14, s15, s16]
  clear s1 s2 s7 s8 s13 s14 s15 s16
  go_wp2_with fail
  refine (hpB _).mono ?_
  rintro e w' ⟨rfl, hw'⟩
  rw [hw']
  clear hw' w' hpB
  have b2 := below_alloc w (.cells #[.int .i64 (f : Int), .int .i64 (t1 : Int), .int .i64 (v : Int)] 32)
  have hnew := tri_new w (f : Int) (t1 : Int) (v : Int) 32
  have h3 := tri_one (f : Int) (t1 : Int) (v : Int)
  have Ho2 := hid (ownsRow_below Ho.out b2)
  have hB2 := hid (Nat.le_trans hB b2.size)
  have HB3 := hid (b2.mono hB)
  clear b2
  go_wp2_with (at_builtin; refine hold ?_)
  unfold Hid
  refine wpList_append_own _ rfl _ _ 30 rfl B 32 i32 _ 3 24 Try.underlying30 hi32 hz32 hs32 hb32 rfl (by decide) (.slice la i lc) i xs rfl Ho2.out ⟨w.heap.size, 0, none⟩ 1 1 [Value.int .i64 (f : Int), .int .i64 (t1 : Int), .int .i64 (v : Int)] rfl rfl hnew h3 (by unfold maxLen; omega) (by omega) hB2.out ?_
  intro v12 w12 o12 g12 _
  obtain ⟨la2, cap2, rfl, hc1, hc2, hc3⟩ := own_form o12
  have O12 := hid o12
  have HF2 := hid (HB3.out.grown g12 hB2.out (fun j hj => (Ho2.out.lt j hj).1))
  clear o12 g12 hnew h3
  go_wp2_with fail
  refine q_fr (N := 272) HQ.out rfl ⟨la2, cap2, ⟨rfl, rfl, rfl, rfl, rfl, rfl⟩, ?_, HF2.out⟩
  rw [Hjs.out]
  exact O12.out
def DjI (w0 W1 : World) (B : Nat) (ja : Option Addr) (jn jc : Nat) (js : Nat → Int × Int) (za : Option Addr) (ln zc : Nat) (wa : Option Addr) (wn wc RB : Nat) (zs : List Int) (y : Nat → Value) (W : World) : Prop :=
  ∃ i la lc, i ≤ min jn 6 ∧ (i = 0 → la = none ∧ lc = 0) ∧ SJl y ja jn jc za ln zc wa wn wc RB (.slice la i lc) i ∧ W.ownsRow B 32 3 (.slice la i lc) i (jcs (frD js) (ttD js) (nzD zs ln) i) ∧ Below B W1 W
set_option maxRecDepth 1000000 in
set_option maxHeartbeats 4000000 in
theorem dl_b (w0 W1 : World) (B : Nat) (ja : Option Addr) (jn jc : Nat) (js : Nat → Int × Int) (za : Option Addr) (ln zc : Nat) (wa : Option Addr) (wn wc RB : Nat) (zs : List Int) (hR : RawAt w0 ja jn jc js) (hz : Rd w0 za ln zc (vz zs)) (hzb : ∀ z ∈ zs, I64 z) (hb : Below w0.heap.size w0 W1) (hB : B ≤ W1.heap.size) (hwB : w0.heap.size ≤ B) :
    Tri Try.prog 272 (pieceOf Try.f3 [1, 1, 1, 1, 1, 0, 1]) (fun y w => SJl y ja jn jc za ln zc wa wn wc RB (.slice none 0 0) 0 ∧ w = W1)
      (fun _ _ y w => ∃ la lc, (min jn 6 = 0 → la = none ∧ lc = 0) ∧ SJl y ja jn jc za ln zc wa wn wc RB (.slice la (min jn 6) lc) (min jn 6) ∧ w.ownsRow B 32 3 (.slice la (min jn 6) lc) (min jn 6) (jcs (frD js) (ttD js) (nzD zs ln) (min jn 6)) ∧ Below B W1 w) := by
  rintro Q y w ⟨⟨s1, s2, s7, s8, s13, s14⟩, rfl⟩ hQ
  have HQ := hid hQ
  have HR := hid hR
  have HZ := hid hz
  have HZB := hid hzb
  have HB0 := hid hb
  have hrm := Nat.le_trans hR.le hR.max
  unfold maxLen at hrm
  clear hQ hR hz hzb hb
  conv => arg 2; whnf
  rw [fr272]
  simp only [s1, s2, s7, s8, s13, s14]
  clear s1 s2 s7 s8 s13 s14
  refine wp_block ?_
  refine wp_loop_fr 272 (DjI w0 w B ja jn jc js za ln zc wa wn wc RB zs) (fun y' _ => 6 - (intOf (y' 14)).toNat) ⟨rfl, rfl, 0, none, 0, Nat.zero_le _, (fun _ => ⟨rfl, rfl⟩), ⟨rfl, rfl, rfl, rfl, rfl, rfl⟩, ⟨rfl, .inl ⟨rfl, rfl⟩⟩, Below.refl _ _⟩ ?_
  rintro z W ⟨i, la, lc, hi, hi0, ⟨s1, s2, s7, s8, s13, s14⟩, ho, hb⟩
  have Hi0 := hid hi0
  have HO := hid ho
  have HB := hid hb
  have HBW := hid (HB0.out.trans (hb.mono hwB))
  have HBB := hid (Nat.le_trans hB hb.size)
  clear hi0 ho hb
  rw [fr272]
  simp only [s1, s2, s7, s8, s13, s14]
  clear s1 s2 s7 s8 s13 s14
  by_cases hlt : i < jn ∧ i < 6
  · obtain ⟨hl1, hl2⟩ := hlt
    have d1 : decide ((i : Int) < (jn : Int)) = true := decide_eq_true (by omega)
    have d2 : decide ((i : Int) < 6) = true := decide_eq_true (by omega)
    have d3 : decide (i < jn) = true := decide_eq_true hl1
    have d4 : decide (i < 6) = true := decide_eq_true hl2
    have hn := hid (dl_n w0 W ja jn jc za ln zc wa wn wc RB (.slice la i lc) i zs (frD js i) (by omega) HBW.out HZ.out HZB.out)
    have hw := hid (dl_j w0 W B ja jn jc js za ln zc wa wn wc RB zs la i lc hl1 hl2 HR.out HBW.out HBB.out HO.out)
    obtain ⟨rb, ro, rfl, hrl, hrc⟩ := HR.out.mem (by omega)
    obtain ⟨c0, _⟩ := hrc i hl1
    have c0 : W.cell? ⟨rb, ro + i * 2, none⟩ = some (.int .i64 (js i).1) := (HBW.out.cell (p := ⟨rb, ro + i * 2, none⟩) hrl).trans c0
    obtain ⟨⟨t1, t2⟩, _⟩ := HR.out.bd i hl1
    have hp1 := pick_st (js i).1 30 W t1 t2 (by decide) (by decide)
    rw [show (30 : Int).toNat = 30 from rfl] at hp1
    have hfe : pk (js i).1 30 = frD js i := rfl
    rw [hfe] at hp1
    clear hrc t1 t2 hfe
    generalize (js i).1 = ti at *
    generalize frD js i = f at *
    go_upto_block 5 with (fail)
    refine wp_block ?_
    refine wp_seq_k (fun K1 hK1 => ?_)
    go_wp2_with fail
    refine hp1.mono ?_
    rintro e w' ⟨rfl, hw'⟩
    rw [hw']
    clear hw' w' hp1 c0
    go_wp2_with fail
    refine hK1.out _ _ ?_
    refine wp_seq_k (fun K2 hK2 => ?_)
    go_wp2_with fail
    refine hK2.out _ _ ?_
    refine wp_seq_k (fun K3 hK3 => ?_)
    refine Tri.use hn.out rfl ⟨⟨rfl, rfl, rfl, rfl, rfl, rfl⟩, rfl, rfl, rfl⟩ ?_
    rintro y5 W5 ⟨⟨s1, s2, s7, s8, s13, s14⟩, s15, s16, rfl⟩
    refine hK3.out _ _ ?_
    rw [fr272]
    simp only [s1, s2, s7, s8, s13, s14, s15, s16]
    clear s1 s2 s7 s8 s13 s14 s15 s16
    refine Tri.use hw.out rfl ⟨⟨rfl, rfl, rfl, rfl, rfl, rfl⟩, rfl, rfl, rfl⟩ ?_
    rintro y6 W6 ⟨la6, lc6, ⟨s1, s2, s7, s8, s13, s14⟩, ho6, hb6⟩
    have HO6 := hid ho6
    have HB6 := hid (HB.out.trans hb6)
    clear ho6 hb6 hw hn
    rw [fr272]
    simp only [s1, s2, s7, s8, s13, s14]
    clear s1 s2 s7 s8 s13 s14
    go_wp2_with fail
    refine ⟨rfl, rfl, ⟨i + 1, la6, lc6, by omega, fun h => by omega, ⟨rfl, rfl, rfl, rfl, rfl, ?_⟩, HO6.out, HB6.out⟩, ?_⟩
    · show Value.int .i64 _ = Value.int .i64 _
      go_num
    · show 6 - (intOf (Value.int .i64 _)).toNat < _
      simp [intOf]
      omega
  · obtain rfl : i = min jn 6 := by omega
    by_cases hl1 : min jn 6 < jn
    · have h9 : min jn 6 = 6 := by omega
      have d1 : decide (((min jn 6 : Nat) : Int) < (jn : Int)) = true := decide_eq_true (by omega)
      have d2 : decide (((min jn 6 : Nat) : Int) < 6) = false := decide_eq_false (by omega)
      generalize min jn 6 = i at *
      subst h9
      go_wp2_with fail
      exact q_fr (N := 272) HQ.out rfl ⟨la, lc, Hi0.out, ⟨rfl, rfl, rfl, rfl, rfl, rfl⟩, HO.out, HB.out⟩
    · have d1 : decide (((min jn 6 : Nat) : Int) < (jn : Int)) = false := decide_eq_false (by omega)
      generalize min jn 6 = i at *
      go_wp2_with fail
      exact q_fr (N := 272) HQ.out rfl ⟨la, lc, Hi0.out, ⟨rfl, rfl, rfl, rfl, rfl, rfl⟩, HO.out, HB.out⟩
end Go.Proofs.Ytfbchmihkndfaaa
/- PassesDue: the law: each stretch of time. -/
namespace Go.Proofs.Ytfbchmihkndfaaa
set_option linter.unusedVariables false
open Go.RowKit

structure SCl (y : Nat → Value) (wa : Option Addr) (wn wc RB : Nat) (la : Option Addr) (m lc : Nat) (c : Bool) (a : Nat) : Prop where
  s7 : y 7 = .slice wa wn wc
  s8 : y 8 = .slice (some ⟨RB, 0, none⟩) 40 40
  s13 : y 13 = .slice la m lc
  s17 : y 17 = .bool c
  s18 : y 18 = .int .i64 (a : Int)
def RoI (W1 : World) (wa : Option Addr) (wn wc RB : Nat) (la : Option Addr) (m lc : Nat) (c : Bool) (a b : Nat) (r : Nat → Nat) (y : Nat → Value) (W : World) : Prop :=
  ∃ t s : Nat, a ≤ t ∧ t ≤ b ∧ SCl y wa wn wc RB la m lc c a ∧ y 19 = .int .i64 (b : Int) ∧ y 20 = .int .i64 (s : Int) ∧ y 21 = .int .i64 0 ∧ y 22 = .int .i64 (t : Int) ∧ s = rm r a t ∧ s ≤ 10000 * t ∧ W = W1
set_option maxRecDepth 1000000 in
set_option maxHeartbeats 4000000 in
theorem dl_room (W1 : World) (wa : Option Addr) (wn wc RB : Nat) (la : Option Addr) (m lc : Nat) (c : Bool) (a b : Nat) (r : Nat → Nat) (hab : a ≤ b) (hb40 : b ≤ 40) (hr : ∀ t, r t ≤ 10000) (hG : Gn W1 RB 40 (fun u => (r u : Int))) :
    Tri Try.prog 272 (pieceOf Try.f3 [1, 1, 1, 1, 1, 1, 1, 0, 1, 0, 0, 1, 0, 0, 1, 0, 0, 1, 0, 0, 1, 0, 1]) (fun y w => SCl y wa wn wc RB la m lc c a ∧ y 19 = .int .i64 (b : Int) ∧ y 20 = .int .i64 0 ∧ y 21 = .int .i64 0 ∧ y 22 = .int .i64 (a : Int) ∧ w = W1)
      (fun _ _ y w => SCl y wa wn wc RB la m lc c a ∧ y 19 = .int .i64 (b : Int) ∧ y 20 = .int .i64 (rm r a b : Nat) ∧ rm r a b ≤ 400000 ∧ y 21 = .int .i64 0 ∧ w = W1) := by
  rintro Q y w ⟨⟨s7, s8, s13, s17, s18⟩, s19, s20, s21, s22, rfl⟩ hQ
  have HQ := hid hQ
  have HG := hid hG
  have HR := hid hr
  clear hQ hG hr
  conv => arg 2; whnf
  rw [fr272]
  simp only [s7, s8, s13, s17, s18, s19, s20, s21, s22]
  clear s7 s8 s13 s17 s18 s19 s20 s21 s22
  refine wp_block ?_
  refine wp_loop_fr 272 (RoI w wa wn wc RB la m lc c a b r) (fun y' _ => b - (intOf (y' 22)).toNat) ⟨rfl, rfl, a, 0, Nat.le_refl _, hab, ⟨rfl, rfl, rfl, rfl, rfl⟩, rfl, rfl, rfl, rfl, (rm_none _ _ _ (Nat.le_refl _)).symm, Nat.zero_le _, rfl⟩ ?_
  rintro z W ⟨t, s, ht1, ht2, ⟨s7, s8, s13, s17, s18⟩, s19, s20, s21, s22, hs, hsl, rfl⟩
  have Hs := hid hs
  clear hs
  rw [fr272]
  simp only [s7, s8, s13, s17, s18, s19, s20, s21, s22]
  clear s7 s8 s13 s17 s18 s19 s20 s21 s22
  by_cases hlt : t < b
  · have d1 : decide ((t : Int) < (b : Int)) = true := decide_eq_true (by omega)
    have d2 : decide ((t : Int) < 40) = true := decide_eq_true (by omega)
    have d3 : decide (t < b) = true := decide_eq_true hlt
    have d4 : decide (t < 40) = true := decide_eq_true (by omega)
    have t40 : (t : Int) < 40 := by omega
    have c0 := (HG.out.cell t (by omega)).1
    have hrt := HR.out t
    have hN : Hid (s + r t = rm r a (t + 1)) := by rw [Hs.out]; unfold Hid; rw [rm_succ, if_pos ht1]
    generalize r t = rt at *
    obtain ⟨q, hq⟩ : ∃ q, q = s + rt := ⟨_, rfl⟩
    rw [← hq] at hN
    have a1 : (s : Int) + (rt : Int) = (q : Int) := by omega
    have w1 : IntKind.i64.wrap (q : Int) = (q : Int) := IntWalk.i64_in _ (by omega)
    have hql : q ≤ 10000 * (t + 1) := by omega
    have Hql := hid hql
    clear hq hql hsl
    go_wp2_with fail
    refine ⟨rfl, rfl, ⟨t + 1, q, by omega, by omega, ⟨rfl, rfl, rfl, rfl, rfl⟩, rfl, rfl, rfl, ?_, hN.out, Hql.out, rfl⟩, ?_⟩
    · show Value.int .i64 _ = Value.int .i64 _
      go_num
    · show b - (intOf (Value.int .i64 _)).toNat < _
      simp [intOf]
      omega
  · obtain rfl : t = b := by omega
    have d1 : decide ((t : Int) < (t : Int)) = false := decide_eq_false (by omega)
    have hsl2 := hid (show s ≤ 400000 by omega)
    clear hsl
    go_wp2_with fail
    exact q_fr (N := 272) HQ.out rfl ⟨⟨rfl, rfl, rfl, rfl, rfl⟩, rfl, by rw [← Hs.out]; rfl, by rw [← Hs.out]; exact hsl2.out, rfl, rfl⟩
/-- what has to go, of the first k -/
def needTo (F Y N : Nat → Nat) (a b k : Nat) : Nat := sm k fun i => if a ≤ F i ∧ Y i ≤ b then N i else 0
def NeI (W1 : World) (wa : Option Addr) (wn wc RB : Nat) (la : Option Addr) (m lc : Nat) (c : Bool) (a b ro : Nat) (F Y N : Nat → Nat) (y : Nat → Value) (W : World) : Prop :=
  ∃ i s : Nat, i ≤ m ∧ SCl y wa wn wc RB la m lc c a ∧ y 19 = .int .i64 (b : Int) ∧ y 20 = .int .i64 (ro : Int) ∧ y 21 = .int .i64 (s : Int) ∧ y 23 = .int .i64 (i : Int) ∧ s = needTo F Y N a b i ∧ s ≤ 1000 * i ∧ W = W1
set_option maxRecDepth 1000000 in
set_option maxHeartbeats 4000000 in
theorem dl_need (W1 : World) (wa : Option Addr) (wn wc RB : Nat) (la : Option Addr) (m lc : Nat) (c : Bool) (a b ro : Nat) (F Y N : Nat → Nat) (hJ : JobOk m F Y N) (hj : JA W1 la m lc F Y N) (ha : a ≤ 40) (hb : b ≤ 40) :
    Tri Try.prog 272 (pieceOf Try.f3 [1, 1, 1, 1, 1, 1, 1, 0, 1, 0, 0, 1, 0, 0, 1, 0, 0, 1, 0, 0, 1, 1, 0, 1]) (fun y w => SCl y wa wn wc RB la m lc c a ∧ y 19 = .int .i64 (b : Int) ∧ y 20 = .int .i64 (ro : Int) ∧ y 21 = .int .i64 0 ∧ y 23 = .int .i64 0 ∧ w = W1)
      (fun _ _ y w => SCl y wa wn wc RB la m lc c a ∧ y 19 = .int .i64 (b : Int) ∧ y 20 = .int .i64 (ro : Int) ∧ y 21 = .int .i64 (needTo F Y N a b m : Nat) ∧ w = W1) := by
  rintro Q y w ⟨⟨s7, s8, s13, s17, s18⟩, s19, s20, s21, s23, rfl⟩ hQ
  have HQ := hid hQ
  have HJ := hid hJ
  have HJA := hid hj
  have hm9 := hJ.n
  have hle := hj.le
  have hmx := hj.mx
  unfold maxLen at hmx
  clear hQ hJ hj
  conv => arg 2; whnf
  rw [fr272]
  simp only [s7, s8, s13, s17, s18, s19, s20, s21, s23]
  clear s7 s8 s13 s17 s18 s19 s20 s21 s23
  refine wp_block ?_
  refine wp_loop_fr 272 (NeI w wa wn wc RB la m lc c a b ro F Y N) (fun y' _ => m - (intOf (y' 23)).toNat) ⟨rfl, rfl, 0, 0, Nat.zero_le _, ⟨rfl, rfl, rfl, rfl, rfl⟩, rfl, rfl, rfl, rfl, rfl, Nat.zero_le _, rfl⟩ ?_
  rintro z W ⟨i, s, hi, ⟨s7, s8, s13, s17, s18⟩, s19, s20, s21, s23, hs, hsl, rfl⟩
  have Hs := hid hs
  clear hs
  rw [fr272]
  simp only [s7, s8, s13, s17, s18, s19, s20, s21, s23]
  clear s7 s8 s13 s17 s18 s19 s20 s21 s23
  by_cases hlt : i < m
  · have d1 : decide ((i : Int) < (m : Int)) = true := decide_eq_true (by omega)
    have d2 : decide (i < m) = true := decide_eq_true hlt
    obtain ⟨jb, rfl, hjb⟩ := HJA.out.mem (by omega)
    obtain ⟨c0, c1, c2⟩ := hjb.cell i hlt
    have hYi := HJ.out.y i hlt
    have hFi := HJ.out.fy i hlt
    have hNi := HJ.out.b i hlt
    have hN1 : Hid (a ≤ F i → Y i ≤ b → s + N i = needTo F Y N a b (i + 1)) := fun h1 h2 => by
      rw [Hs.out]
      show _ = sm i _ + (if a ≤ F i ∧ Y i ≤ b then N i else 0)
      rw [if_pos ⟨h1, h2⟩]
      rfl
    have hN2 : Hid (¬ (a ≤ F i ∧ Y i ≤ b) → s = needTo F Y N a b (i + 1)) := fun h1 => by
      rw [Hs.out]
      show _ = sm i _ + (if a ≤ F i ∧ Y i ≤ b then N i else 0)
      rw [if_neg h1]
      rfl
    clear hjb
    generalize F i = fi at *
    generalize Y i = yi at *
    generalize N i = ni at *
    have hsl2 := hid (show s ≤ 1000 * (i + 1) by omega)
    by_cases h1 : a ≤ fi
    · have e1 : decide ((a : Int) ≤ (fi : Int)) = true := decide_eq_true (by omega)
      have e2 : decide (a ≤ fi) = true := decide_eq_true h1
      by_cases h2 : yi ≤ b
      · have e3 : decide ((yi : Int) ≤ (b : Int)) = true := decide_eq_true (by omega)
        have e4 : decide (yi ≤ b) = true := decide_eq_true h2
        have hN := hid (hN1.out h1 h2)
        obtain ⟨q, hq⟩ : ∃ q, q = s + ni := ⟨_, rfl⟩
        rw [← hq] at hN
        have a1 : (s : Int) + (ni : Int) = (q : Int) := by omega
        have w1 : IntKind.i64.wrap (q : Int) = (q : Int) := IntWalk.i64_in _ (by omega)
        have Hql := hid (show q ≤ 1000 * (i + 1) by omega)
        clear hq hsl hN1 hN2
        go_wp2_with fail
        refine ⟨rfl, rfl, ⟨i + 1, q, by omega, ⟨rfl, rfl, rfl, rfl, rfl⟩, rfl, rfl, rfl, ?_, hN.out, Hql.out, rfl⟩, ?_⟩
        · show Value.int .i64 _ = Value.int .i64 _
          go_num
        · show m - (intOf (Value.int .i64 _)).toNat < _
          simp [intOf]
          omega
      · have e3 : decide ((yi : Int) ≤ (b : Int)) = false := decide_eq_false (by omega)
        have e4 : decide (yi ≤ b) = false := decide_eq_false h2
        have hN := hid (hN2.out (fun h => h2 h.2))
        clear hsl hN1 hN2
        go_wp2_with fail
        refine ⟨rfl, rfl, ⟨i + 1, s, by omega, ⟨rfl, rfl, rfl, rfl, rfl⟩, rfl, rfl, rfl, ?_, hN.out, hsl2.out, rfl⟩, ?_⟩
        · show Value.int .i64 _ = Value.int .i64 _
          go_num
        · show m - (intOf (Value.int .i64 _)).toNat < _
          simp [intOf]
          omega
    · have e1 : decide ((a : Int) ≤ (fi : Int)) = false := decide_eq_false (by omega)
      have e2 : decide (a ≤ fi) = false := decide_eq_false h1
      have hN := hid (hN2.out (fun h => h1 h.1))
      clear hsl hN1 hN2
      go_wp2_with fail
      refine ⟨rfl, rfl, ⟨i + 1, s, by omega, ⟨rfl, rfl, rfl, rfl, rfl⟩, rfl, rfl, rfl, ?_, hN.out, hsl2.out, rfl⟩, ?_⟩
      · show Value.int .i64 _ = Value.int .i64 _
        go_num
      · show m - (intOf (Value.int .i64 _)).toNat < _
        simp [intOf]
        omega
  · obtain rfl : i = m := by omega
    have d1 : decide ((i : Int) < (i : Int)) = false := decide_eq_false (by omega)
    clear hsl
    go_wp2_with fail
    exact q_fr (N := 272) HQ.out rfl ⟨⟨rfl, rfl, rfl, rfl, rfl⟩, rfl, rfl, by rw [← Hs.out]; rfl, rfl⟩
end Go.Proofs.Ytfbchmihkndfaaa
