/- PassesDue: share of no jobs, joined; Share and Fits. -/
import Derived.Test.YtfbchmihkndfaaaDue20
import Derived.Test.YtfbchmihkndfaaaDue19
namespace Go.Proofs.Ytfbchmihkndfaaa
set_option linter.unusedVariables false
open Go.RowKit

set_option maxRecDepth 1000000 in
set_option maxHeartbeats 4000000 in
theorem share_0 (wa : Option Addr) (wc : Nat) (V : Wins) (F Y N : Nat → Nat) (W0 : World) (hV : WinOk V) (hw : WAt W0 wa wc V) :
    Calls Try.prog 11 #[.slice wa V.n wc, .slice none 0 0] W0 fun e w' => ShareR W0 w' 0 F Y N (V.rt V.n) e := by
  have b1 := below_alloc W0 (.cells #[.slice none 0 0] 30)
  have r1 := heap_alloc_new W0 (.cells #[.slice none 0 0] 30)
  have hmk : ∀ u : World, (Instr.makeSlice 23 (.int .i64 0) (.int .i64 0)).run Try.prog u = .ok (.slice (some ⟨u.heap.size, 0, none⟩) 0 0) (u.alloc (.cells (madeCells #[.int .i64 0] (0 * 1)) 3)) := run_mkM 0 (by omega)
  have hgs := fun u => Gn.start u 0
  have hbs := fun u => below_alloc u (.cells (madeCells #[.int .i64 0] (0 * 1)) 3)
  obtain ⟨X, hX⟩ : ∃ X, X = W0.heap.size := ⟨_, rfl⟩
  rw [← hX] at r1 b1
  have HX := hid hX
  have HV := hid hV
  have HW := hid hw
  generalize madeCells #[.int .i64 0] (0 * 1) = MB at *
  clear hX hV hw
  go_enter Try.func11, Try.ntmps11
  refine wp_seq_k (fun K0 hK0 => ?_)
  go_wp2_with fail
  rw [← HX.out]
  refine hK0.out _ _ ?_
  have c1 : (W0.alloc (.cells #[.slice none 0 0] 30)).cell? ⟨X, 0, none⟩ = some (.slice none 0 0) := by rw [cell_of_row _ _ _ _ _ _ r1]; rfl
  have B1 := hid b1
  have R1 := hid r1
  have hs1 : Hid ((W0.alloc (.cells #[.slice none 0 0] 30)).heap.size = W0.heap.size + 1) := World.size_alloc _ _
  clear b1 r1
  generalize W0.alloc (.cells #[.slice none 0 0] 30) = W1 at *
  refine wp_seq_k (fun K1 hK1 => ?_)
  go_wp2_with fail
  refine hK1.out _ _ ?_
  have G2 := hid (hgs W1)
  have B2 := hid (B1.out.trans ((hbs W1).mono (by rw [hs1.out, ← HX.out]; omega)))
  have R2 := hid (row_below R1.out (hbs W1))
  have S2 := hid (hbs W1).size
  obtain ⟨gb, hgb⟩ : ∃ gb, gb = W1.heap.size := ⟨_, rfl⟩
  rw [← hgb] at G2 ⊢
  have Hgb := hid hgb
  clear hgb hgs hbs hmk c1 R1 B1
  generalize W1.alloc (.cells MB 3) = V2 at *
  have c2 : V2.cell? ⟨X, 0, none⟩ = some (.slice none 0 0) := by rw [cell_of_row _ _ _ _ _ _ R2.out]; rfl
  have hcl := clone_jnil V2
  refine wp_seq_k (fun K2 hK2 => ?_)
  go_wp2_with fail
  refine hcl.mono ?_
  rintro e W3 ⟨rfl, hw3⟩
  rw [hw3]
  clear hw3 W3 hcl c2
  go_wp2_with fail
  refine hK2.out _ _ ?_
  have b4 := below_alloc V2 (.cells #[.slice none 0 0, .slice none 0 0] 68)
  have R4 := hid (heap_alloc_new V2 (.cells #[.slice none 0 0, .slice none 0 0] 68))
  have RX := hid (row_below R2.out b4)
  have G4 := hid (G2.out.below b4)
  have B4 := hid (B2.out.trans (b4.mono (by have := S2.out; have := hs1.out; have := HX.out; omega)))
  obtain ⟨QB, hQB⟩ : ∃ QB, QB = V2.heap.size := ⟨_, rfl⟩
  rw [← hQB] at R4 ⊢
  clear hQB b4 R2 G2 B2
  generalize V2.alloc (.cells #[.slice none 0 0, .slice none 0 0] 68) = W4 at *
  have c4 : W4.cell? ⟨X, 0, none⟩ = some (.slice none 0 0) := by rw [cell_of_row _ _ _ _ _ _ RX.out]; rfl
  refine wp_seq_k (fun K3 hK3 => ?_)
  go_wp2_with fail
  refine hK3.out _ _ ?_
  refine wp_seq_k (fun K4 hK4 => ?_)
  refine wp_seq_k (fun K5 hK5 => ?_)
  go_wp2_with fail
  refine hK5.out _ _ ?_
  refine wp_block ?_
  refine wp_loop_rounds 1 ?_
  rw [rounds_succ]
  go_wp2_with fail
  refine hK4.out _ _ ?_
  have hord := sortE none 0 (.func (.func 27) #[] #[.pointer (some ⟨X, 0, none⟩)]) W4
  have hroom := room_ok wa wc V W4 HV.out (HW.out.below' (by rw [← HX.out]; exact B4.out))
  clear c4 HW
  refine wp_seq_k (fun K6 hK6 => ?_)
  go_wp2_with fail
  refine hord.mono ?_
  rintro e W6 ⟨rfl, hw6⟩
  rw [hw6]
  clear hw6 W6 hord
  go_wp2_with fail
  refine hK6.out _ _ ?_
  refine wp_seq_k (fun K7 hK7 => ?_)
  refine wp_seq_k (fun K8 hK8 => ?_)
  go_wp2_with fail
  refine hroom.mono ?_
  rintro e W7 ⟨⟨rb, rfl, hrb, hIv⟩, hb7⟩
  have ht0 := hid (shr_t0 W7 X gb QB rb (V.rt V.n) (row_below R4.out hb7) hIv)
  have G7 := hid (G4.out.below hb7)
  have B7 := hid (B4.out.trans (hb7.mono (by have := B4.out.size; rw [← HX.out] at this; exact this)))
  clear hroom hIv hb7 hrb
  go_wp2_with fail
  refine hK8.out _ _ ?_
  refine Tri.use ht0.out rfl ⟨0, Nat.zero_le _, ⟨rfl, rfl, rfl, rfl, rfl, rfl, rfl⟩, Below.refl _ _⟩ ?_
  rintro y9 W9 ⟨s5, hb9⟩
  refine hK7.out _ _ ?_
  have G9 := hid (G7.out.below hb9)
  have B9 := hid (B7.out.trans (hb9.mono (by have := B7.out.size; rw [← HX.out] at this; exact this)))
  have hgx : W0.heap.size ≤ gb := by have := Hgb.out; have := hs1.out; omega
  clear hb9 ht0
  rw [fr130]
  simp only [s5]
  clear s5
  go_wp2_with fail
  go_ret
  exact ⟨⟨gb, N, fun _ => 0, rfl, hgx, G9.out, DInv.empty _ _ _ _ _ _ _⟩, by rw [← HX.out]; exact B9.out⟩
end Go.Proofs.Ytfbchmihkndfaaa
/- PassesDue: Share and Fits. -/
namespace Go.Proofs.Ytfbchmihkndfaaa
set_option linter.unusedVariables false
open Go.RowKit

set_option maxRecDepth 1000000 in
theorem fr36 (y : Nat → Value) : fr 36 y = #[y 0, y 1, y 2, y 3, y 4, y 5, y 6, y 7, y 8, y 9, y 10, y 11, y 12, y 13, y 14, y 15, y 16, y 17, y 18, y 19, y 20, y 21, y 22, y 23, y 24, y 25, y 26, y 27, y 28, y 29, y 30, y 31, y 32, y 33, y 34, y 35] := rfl
/-- jobs, or none -/
structure JA (W : World) (ja : Option Addr) (m c : Nat) (F Y N : Nat → Nat) : Prop where
  le : m ≤ c
  mx : c ≤ maxLen
  nil : m = 0 → ja = none ∧ c = 0
  mem : 0 < m → ∃ b, ja = some ⟨b, 0, none⟩ ∧ JbAt W b m F Y N
theorem JA.tat {W : World} {ja : Option Addr} {m c : Nat} {F Y N : Nat → Nat} (h : JA W ja m c F Y N) : TAt W ja m c F Y N :=
  ⟨h.le, h.mx, fun h0 => by
    obtain ⟨b, h1, h2⟩ := h.mem h0
    obtain ⟨cs, h3, _⟩ := id h2
    exact ⟨b, h1, row_lt h3, fun i hi => h2.cell i hi⟩⟩
theorem JA.below {W W' : World} {ja : Option Addr} {m c : Nat} {F Y N : Nat → Nat} (h : JA W ja m c F Y N) (hb : Below W.heap.size W W') : JA W' ja m c F Y N :=
  ⟨h.le, h.mx, h.nil, fun h0 => by
    obtain ⟨b, h1, h2⟩ := h.mem h0
    exact ⟨b, h1, h2.below hb⟩⟩
theorem share_any (wa ja : Option Addr) (wc m nc : Nat) (V : Wins) (F Y N : Nat → Nat) (W0 : World) (hV : WinOk V) (hw : WAt W0 wa wc V) (hJ : JobOk m F Y N) (hj : JA W0 ja m nc F Y N) :
    Calls Try.prog 11 #[.slice wa V.n wc, .slice ja m nc] W0 fun e w' => ShareR W0 w' m F Y N (V.rt V.n) e := by
  rcases Nat.eq_zero_or_pos m with h0 | h0
  · subst h0
    obtain ⟨rfl, rfl⟩ := hj.nil rfl
    exact share_0 wa wc V F Y N W0 hV hw
  · obtain ⟨b, rfl, h2⟩ := hj.mem h0
    exact share_ok wa wc b m nc V F Y N W0 hV hw hJ h0 hj.le hj.mx h2
structure SharR (W0 W : World) (m : Nat) (F Y N r : Nat → Nat) (e : Ending) : Prop where
  ex : ∃ gb rem gone, e = .returned (.tuple #[.slice (some ⟨gb, 0, none⟩) m m, .int .i64 0]) ∧ W0.heap.size ≤ gb ∧ Gn W gb m gone ∧ DInv ⟨m, F, Y, N⟩ r 20001 rem gone
  blw : Below W0.heap.size W0 W
set_option maxRecDepth 1000000 in
set_option maxHeartbeats 1000000 in
theorem Share_ok (wa ja : Option Addr) (wc m nc : Nat) (V : Wins) (F Y N : Nat → Nat) (W0 : World) (hV : WinOk V) (hw : WAt W0 wa wc V) (hJ : JobOk m F Y N) (hj : JA W0 ja m nc F Y N) :
    Calls Try.prog 7 #[.slice wa V.n wc, .slice ja m nc] W0 fun e w' => SharR W0 w' m F Y N (V.rt V.n) e := by
  have hlk := looks_ok wa ja wc m nc V F Y N hV hJ W0 hw hj.tat
  have hsh := hid (fun W (hb : Below W0.heap.size W0 W) => share_any wa ja wc m nc V F Y N W hV (hw.below' hb) hJ (hj.below hb))
  clear hV hw hJ hj
  generalize hn : V.n = vn at *
  have Hn := hid hn
  clear hn
  go_enter Try.func7, Try.ntmps7
  go_wp2_with fail
  refine hlk.mono ?_
  rintro e W1 ⟨rfl, b1⟩
  have B1 := hid b1
  clear hlk b1
  go_wp2_with fail
  refine (hsh.out W1 B1.out).mono ?_
  rintro e W2 ⟨⟨gb, rem, gone, rfl, h1, h2, h3⟩, hb2⟩
  have HR := hid (show SharR W0 W2 m F Y N (V.rt vn) (.returned (.tuple #[.slice (some ⟨gb, 0, none⟩) m m, .int .i64 0])) from ⟨⟨gb, rem, gone, rfl, Nat.le_trans B1.out.size h1, h2, h3⟩, B1.out.trans (hb2.mono B1.out.size)⟩)
  clear h1 h2 h3 hb2 hsh
  go_wp2_with fail
  go_ret2
  exact HR.out
/-- all are gone in time -/
def InT (m : Nat) (Y : Nat → Nat) (gone : Nat → Int) : Prop := ∀ i, i < m → 0 ≤ gone i ∧ gone i ≤ (Y i : Int)
structure FitR (W0 W : World) (m : Nat) (F Y N r : Nat → Nat) (e : Ending) : Prop where
  ex : ∃ b rem gone, e = .returned (.tuple #[.bool b, .int .i64 0]) ∧ DInv ⟨m, F, Y, N⟩ r 20001 rem gone ∧ (b = true ↔ InT m Y gone)
  blw : Below W0.heap.size W0 W
def FtI (W1 : World) (ja : Option Addr) (m nc gb : Nat) (Y : Nat → Nat) (gone : Nat → Int) (y : Nat → Value) (W : World) : Prop :=
  ∃ i : Nat, i ≤ m ∧ y 1 = .slice ja m nc ∧ y 17 = .slice (some ⟨gb, 0, none⟩) m m ∧ y 18 = .int .i64 (m : Int) ∧ y 19 = .int .i64 (i : Int) ∧ InT i Y gone ∧ W = W1
set_option maxRecDepth 1000000 in
set_option maxHeartbeats 2000000 in
theorem Fits_ok (wa ja : Option Addr) (wc m nc : Nat) (V : Wins) (F Y N : Nat → Nat) (W0 : World) (hV : WinOk V) (hw : WAt W0 wa wc V) (hJ : JobOk m F Y N) (hj : JA W0 ja m nc F Y N) :
    Calls Try.prog 6 #[.slice wa V.n wc, .slice ja m nc] W0 fun e w' => FitR W0 w' m F Y N (V.rt V.n) e := by
  have hlk := looks_ok wa ja wc m nc V F Y N hV hJ W0 hw hj.tat
  have hsh := hid (fun W (hb : Below W0.heap.size W0 W) => share_any wa ja wc m nc V F Y N W hV (hw.below' hb) hJ (hj.below hb))
  have HJ := hid hJ
  have HJA := hid hj
  have hm9 := hJ.n
  have hle := hj.le
  have hmx := hj.mx
  unfold maxLen at hmx
  clear hV hw hJ hj
  generalize hn : V.n = vn at *
  have Hn := hid hn
  clear hn
  go_enter Try.func6, Try.ntmps6
  go_wp2_with fail
  refine hlk.mono ?_
  rintro e W1 ⟨rfl, b1⟩
  have B1 := hid b1
  clear hlk b1
  go_wp2_with fail
  refine (hsh.out W1 B1.out).mono ?_
  rintro e W2 ⟨⟨gb, rem, gone, rfl, h1, h2, h3⟩, hb2⟩
  have HG := hid h2
  have HD := hid h3
  have HB := hid (B1.out.trans (hb2.mono B1.out.size))
  clear h1 h2 h3 hb2 hsh
  go_wp2_with fail
  refine wp_loop_fr 36 (FtI W2 ja m nc gb Y gone) (fun y' _ => m - (intOf (y' 19)).toNat) ⟨rfl, rfl, 0, Nat.zero_le _, rfl, rfl, rfl, rfl, fun i hi => absurd hi (Nat.not_lt_zero i), rfl⟩ ?_
  rintro z W ⟨i, hi, s1, s17, s18, s19, hin, rfl⟩
  have HI := hid hin
  rw [fr36]
  simp only [s1, s17, s18, s19]
  clear s1 s17 s18 s19 hin
  by_cases hlt : i < m
  · have d1 : decide ((i : Int) < (m : Int)) = true := decide_eq_true (by omega)
    have d2 : decide (i < m) = true := decide_eq_true hlt
    obtain ⟨b, rfl, hjb⟩ := (HJA.out.below HB.out).mem (by omega)
    have cy := (hjb.cell i hlt).2.1
    have cg := (HG.out.cell i hlt).1
    have hYi := HJ.out.y i hlt
    clear hjb
    have HN : Hid (0 ≤ gone i → gone i ≤ (Y i : Int) → InT (i + 1) Y gone) := fun h1 h2 j hj => by
      by_cases e : j = i
      · subst e; exact ⟨h1, h2⟩
      · exact HI.out j (by omega)
    have HX : Hid (¬ (0 ≤ gone i ∧ gone i ≤ (Y i : Int)) → ¬ InT m Y gone) := fun h1 h2 => h1 (h2 i hlt)
    generalize gone i = gi at *
    generalize Y i = yi at *
    by_cases h0 : gi < 0
    · have e1 : decide (gi < 0) = true := decide_eq_true h0
      have HF := hid (HX.out (by omega))
      clear HX HN
      go_wp2_with fail
      go_ret2
      exact ⟨⟨false, rem, gone, rfl, HD.out, ⟨fun h => (by cases h), fun h => absurd h HF.out⟩⟩, HB.out⟩
    · have e1 : decide (gi < 0) = false := decide_eq_false h0
      by_cases h2 : (yi : Int) < gi
      · have e2 : decide ((yi : Int) < gi) = true := decide_eq_true h2
        have HF := hid (HX.out (by omega))
        clear HX HN
        go_wp2_with fail
        go_ret2
        exact ⟨⟨false, rem, gone, rfl, HD.out, ⟨fun h => (by cases h), fun h => absurd h HF.out⟩⟩, HB.out⟩
      · have e2 : decide ((yi : Int) < gi) = false := decide_eq_false h2
        have HF := hid (HN.out (by omega) (by omega))
        clear HX HN
        go_wp2_with fail
        refine ⟨rfl, rfl, ⟨i + 1, by omega, rfl, rfl, rfl, ?_, HF.out, rfl⟩, ?_⟩
        · show Value.int .i64 _ = Value.int .i64 _
          go_num
        · show m - (intOf (Value.int .i64 _)).toNat < _
          simp [intOf]
          omega
  · obtain rfl : i = m := by omega
    have d1 : decide ((i : Int) < (i : Int)) = false := decide_eq_false (by omega)
    go_wp2_with fail
    go_ret2
    exact ⟨⟨true, rem, gone, rfl, HD.out, ⟨fun _ => HI.out, fun _ => rfl⟩⟩, HB.out⟩
end Go.Proofs.Ytfbchmihkndfaaa
/- Passes: order. -/
namespace Go.Proofs.Ytfbchmihkndfaaa
set_option linter.unusedVariables false
open Go.RowKit

theorem Rd.ati {w : World} {ao : Option Addr} {n cap : Nat} {bs : List Nat} (h : Rd w ao n cap (vi bs)) (k : Nat) (hk : k < n) :
    ∃ b off, ao = some ⟨b, off, none⟩ ∧ b < w.heap.size ∧ w.cell? ⟨b, off + k, none⟩ = some (.int .i64 (nth bs k : Nat)) := by
  obtain ⟨b, off, ha, hlt, hc⟩ := h.mem (by omega)
  have hl := h.len
  rw [vi_len] at hl
  exact ⟨b, off, ha, hlt, by rw [hc k hk, vi_get bs k (by omega)]⟩
/-- may these all be taken, in this order? -/
def ChnA (l : List Ps) (gap : Nat) (c : List Nat) : Prop := ∀ i, i + 1 < c.length → fitsB l gap (nth c i) (nth c (i + 1)) = true
theorem chn_of {l : List Ps} {gap : Nat} : ∀ c : List Nat, ChnA l gap c → Chn l gap c
  | [], _ => trivial
  | [_], _ => trivial
  | a :: b :: r, h => ⟨h 0 (by simp), chn_of (b :: r) (fun i hi => h (i + 1) (by simp at hi ⊢; omega))⟩
theorem of_chn {l : List Ps} {gap : Nat} : ∀ c : List Nat, Chn l gap c → ChnA l gap c
  | [], _, i, hi => by simp at hi
  | [_], _, i, hi => by simp at hi
  | a :: b :: r, h, 0, _ => h.1
  | a :: b :: r, h, i + 1, hi => of_chn (b :: r) h.2 i (by simp at hi ⊢; omega)
def pRow (p : Ps) : Array Value := #[.int .i64 (p.st : Int), .int .i64 (p.fr : Int), .int .i64 (p.tt : Int), .int .i64 (p.wo : Int)]
structure SO9 (y : Nat → Value) (la : Option Addr) (n cap gap : Nat) (ca : Option Addr) (m cc i : Nat) : Prop where
  s0 : y 0 = .slice la n cap
  s1 : y 1 = .int .i64 (gap : Int)
  s2 : y 2 = .slice ca m cc
  s7 : y 7 = .int .i64 (i : Int)
set_option maxRecDepth 1000000 in
theorem fr46 (y : Nat → Value) : fr 46 y = #[y 0, y 1, y 2, y 3, y 4, y 5, y 6, y 7, y 8, y 9, y 10, y 11, y 12, y 13, y 14, y 15, y 16, y 17, y 18, y 19, y 20, y 21, y 22, y 23, y 24, y 25, y 26, y 27, y 28, y 29, y 30, y 31, y 32, y 33, y 34, y 35, y 36, y 37, y 38, y 39, y 40, y 41, y 42, y 43, y 44, y 45] := rfl
theorem below22 (U : World) (o1 o2 o3 o4 : Obj) {B : Nat} (hB : B ≤ U.heap.size) : Below B ((U.alloc o1).alloc o2) ((U.alloc o3).alloc o4) :=
  ⟨rfl, rfl, rfl, by simp, fun k hk => by
    have h1 := ((below_alloc U o1).trans ((below_alloc (U.alloc o1) o2).mono (by simp))).block k (by omega)
    have h2 := ((below_alloc U o3).trans ((below_alloc (U.alloc o3) o4).mono (by simp))).block k (by omega)
    exact h2.trans h1.symm⟩
set_option maxRecDepth 1000000 in
set_option maxHeartbeats 2000000 in
theorem two_ok (la : Option Addr) (n cap gap : Nat) (l : List Ps) (ca : Option Addr) (m cc i : Nat) (c : List Nat) (W0 : World) (hr : RdPs W0 la n cap l) (hc : Rd W0 ca m cc (vi c)) (hn : n ≤ 9) (hm : m ≤ 100) (hlt : ∀ k, k < m → nth c k < n) (hi : i + 1 < m) :
    Tri Try.prog 46 (pieceOf Try.f9 [1, 0, 1, 0, 0, 1, 0, 0, 0]) (fun y w => SO9 y la n cap gap ca m cc (i + 1) ∧ w = W0)
      (fun _ _ y w => SO9 y la n cap gap ca m cc (i + 1) ∧ ∃ A B, y 8 = .pointer (some ⟨A, 0, none⟩) ∧ y 9 = .pointer (some ⟨B, 0, none⟩) ∧ w.heap[A]? = some (.cells (pRow (pAt l (nth c i))) 41) ∧ w.heap[B]? = some (.cells (pRow (pAt l (nth c (i + 1)))) 41) ∧ Below W0.heap.size W0 w) := by
  rintro Q y w ⟨⟨s0, s1, s2, s7⟩, rfl⟩ hQ
  have HQ := hid hQ
  have hx := hlt i (by omega)
  have hz := hlt (i + 1) hi
  obtain ⟨cb, co, rfl, hcl, c0⟩ := hc.ati i (by omega)
  obtain ⟨cb2, co2, he, _, c1⟩ := hc.ati (i + 1) hi
  cases he
  obtain ⟨lb, rfl, hll, a0, a1, a2, a3⟩ := hr.at_ (nth c i) hx
  obtain ⟨lb2, he, _, b0, b1, b2, b3⟩ := hr.at_ (nth c (i + 1)) hz
  cases he
  have hd : ∀ w', Below w.heap.size w.drew w' → Below w.heap.size w w' := fun w' h => (Below.refl _ w).drew.trans h
  have f0 : ∀ w', Below w.heap.size w.drew w' → w'.cell? ⟨cb, co + i, none⟩ = some (.int .i64 (nth c i : Nat)) := fun w' h => ((hd w' h).cell (p := ⟨cb, co + i, none⟩) hcl).trans c0
  have f1 : ∀ w', Below w.heap.size w.drew w' → w'.cell? ⟨cb, co + (i + 1), none⟩ = some (.int .i64 (nth c (i + 1) : Nat)) := fun w' h => ((hd w' h).cell (p := ⟨cb, co + (i + 1), none⟩) hcl).trans c1
  have g0 : ∀ w', Below w.heap.size w.drew w' → w'.cell? ⟨lb, nth c i * 4, none⟩ = some (.int .i64 ((pAt l (nth c i)).st : Int)) := fun w' h => ((hd w' h).cell (p := ⟨lb, nth c i * 4, none⟩) hll).trans a0
  have g1 : ∀ w', Below w.heap.size w.drew w' → w'.cell? ⟨lb, nth c i * 4 + 1, none⟩ = some (.int .i64 ((pAt l (nth c i)).fr : Int)) := fun w' h => ((hd w' h).cell (p := ⟨lb, nth c i * 4 + 1, none⟩) hll).trans a1
  have g2 : ∀ w', Below w.heap.size w.drew w' → w'.cell? ⟨lb, nth c i * 4 + 2, none⟩ = some (.int .i64 ((pAt l (nth c i)).tt : Int)) := fun w' h => ((hd w' h).cell (p := ⟨lb, nth c i * 4 + 2, none⟩) hll).trans a2
  have g3 : ∀ w', Below w.heap.size w.drew w' → w'.cell? ⟨lb, nth c i * 4 + 3, none⟩ = some (.int .i64 ((pAt l (nth c i)).wo : Int)) := fun w' h => ((hd w' h).cell (p := ⟨lb, nth c i * 4 + 3, none⟩) hll).trans a3
  have k0 : ∀ w', Below w.heap.size w.drew w' → w'.cell? ⟨lb, nth c (i + 1) * 4, none⟩ = some (.int .i64 ((pAt l (nth c (i + 1))).st : Int)) := fun w' h => ((hd w' h).cell (p := ⟨lb, nth c (i + 1) * 4, none⟩) hll).trans b0
  have k1 : ∀ w', Below w.heap.size w.drew w' → w'.cell? ⟨lb, nth c (i + 1) * 4 + 1, none⟩ = some (.int .i64 ((pAt l (nth c (i + 1))).fr : Int)) := fun w' h => ((hd w' h).cell (p := ⟨lb, nth c (i + 1) * 4 + 1, none⟩) hll).trans b1
  have k2 : ∀ w', Below w.heap.size w.drew w' → w'.cell? ⟨lb, nth c (i + 1) * 4 + 2, none⟩ = some (.int .i64 ((pAt l (nth c (i + 1))).tt : Int)) := fun w' h => ((hd w' h).cell (p := ⟨lb, nth c (i + 1) * 4 + 2, none⟩) hll).trans b2
  have k3 : ∀ w', Below w.heap.size w.drew w' → w'.cell? ⟨lb, nth c (i + 1) * 4 + 3, none⟩ = some (.int .i64 ((pAt l (nth c (i + 1))).wo : Int)) := fun w' h => ((hd w' h).cell (p := ⟨lb, nth c (i + 1) * 4 + 3, none⟩) hll).trans b3
  have hdd := hid ((Below.refl w.heap.size w).drew)
  have hds : Hid (w.drew.heap.size = w.heap.size) := rfl
  clear hQ hlt hd
  generalize pAt l (nth c i) = p at *
  generalize pAt l (nth c (i + 1)) = q at *
  generalize nth c i = x at *
  generalize nth c (i + 1) = z at *
  obtain ⟨k, hk⟩ : ∃ k, k = i + 1 := ⟨_, rfl⟩
  rw [← hk] at f1 s7 hi HQ
  have hsub : (k : Int) - 1 = (i : Int) := by omega
  have hwr : IntKind.i64.wrap (i : Int) = (i : Int) := IntWalk.i64_in _ (by omega)
  have him : i < m := by omega
  have Hk := hid hk
  clear hr hc c0 c1 a0 a1 a2 a3 b0 b1 b2 b3 hk
  obtain ⟨p1, p2, p3, p4⟩ := p
  obtain ⟨q1, q2, q3, q4⟩ := q
  dsimp only at *
  unfold pRow at *
  conv => arg 2; whnf
  rw [fr46]
  simp only [s0, s1, s2, s7]
  clear s0 s1 s2 s7
  refine wp_region_plan [15, 16, 17, 18] (Plan.of [0, 1, 2, 3, 4, 5, 6, 7, 8, 9, 10, 11, 12, 13, 14] (.two 15 (Plan.of [16, 17, 18] .nil) 16 (Plan.of [15, 17, 18] .nil))) (Below w.heap.size) (fun _ => Below.refl _ _) (fun _ _ _ h k => h.trans k) (by kernel_rfl) (by kernel_rfl) ?_
  simp only [Plan.of, Plan.lay, List.contains_cons, List.contains_nil, List.getD_cons_zero, List.getD_cons_succ, Nat.reduceBEq, Bool.or_false, Bool.or_true]
  generalize w.drew = U at *
  repeat (refine wpTL_do rfl (fun w' hw' => (by go_simp; rfl)) ?_; simp only [Act.put, List.setIfInBounds_toArray, List.set_cons_succ, List.set_cons_zero])
  clear f0 f1 g0 g1 g2 g3 k0 k1 k2 k3 hsub hwr
  have hU := hds.out
  refine wpTL_two ?_ ?_
  · refine wpTL_call rfl (fun K hK => ?_)
    go_wp2_with fail
    refine hK _ _ ((below_alloc U _).mono (by omega)) ?_
    clear hK K
    try simp only [Act.put, List.setIfInBounds_toArray, List.set_cons_succ, List.set_cons_zero]
    refine wpTL_call rfl (fun K hK => ?_)
    go_wp2_with fail
    refine hK _ _ ((below_alloc (U.alloc (.cells #[.int .i64 0, .int .i64 0, .int .i64 0, .int .i64 0] 41)) _).mono (by simp; omega)) ?_
    clear hK K
    try simp only [Act.put, List.setIfInBounds_toArray, List.set_cons_succ, List.set_cons_zero]
    refine wpTL_call rfl (fun K hK => ?_)
    go_wp2_with fail
    refine hK _ _ (below22 U _ _ _ _ (by omega)) ?_
    clear hK K
    try simp only [Act.put, List.setIfInBounds_toArray, List.set_cons_succ, List.set_cons_zero]
    refine wpTL_call rfl (fun K hK => ?_)
    go_wp2_with fail
    refine hK _ _ (below22 U _ _ _ _ (by omega)) ?_
    clear hK K
    try simp only [Act.put, List.setIfInBounds_toArray, List.set_cons_succ, List.set_cons_zero]
    refine wpTL_nil ?_
    have rA := row_below (heap_alloc_new U (.cells #[.int .i64 (p1 : Int), .int .i64 (p2 : Int), .int .i64 (p3 : Int), .int .i64 (p4 : Int)] 41)) (below_alloc (U.alloc (.cells #[.int .i64 (p1 : Int), .int .i64 (p2 : Int), .int .i64 (p3 : Int), .int .i64 (p4 : Int)] 41)) (.cells #[.int .i64 (q1 : Int), .int .i64 (q2 : Int), .int .i64 (q3 : Int), .int .i64 (q4 : Int)] 41))
    have rB := heap_alloc_new (U.alloc (.cells #[.int .i64 (p1 : Int), .int .i64 (p2 : Int), .int .i64 (p3 : Int), .int .i64 (p4 : Int)] 41)) (.cells #[.int .i64 (q1 : Int), .int .i64 (q2 : Int), .int .i64 (q3 : Int), .int .i64 (q4 : Int)] 41)
    rw [World.size_alloc] at rB
    have hb := hdd.out.trans (((below_alloc U (.cells #[.int .i64 (p1 : Int), .int .i64 (p2 : Int), .int .i64 (p3 : Int), .int .i64 (p4 : Int)] 41)).trans ((below_alloc (U.alloc (.cells #[.int .i64 (p1 : Int), .int .i64 (p2 : Int), .int .i64 (p3 : Int), .int .i64 (p4 : Int)] 41)) (.cells #[.int .i64 (q1 : Int), .int .i64 (q2 : Int), .int .i64 (q3 : Int), .int .i64 (q4 : Int)] 41)).mono (by simp))).mono (Nat.le_of_eq hU.symm))
    rw [hU] at rA rB
    exact q_fr (N := 46) HQ.out rfl ⟨⟨rfl, rfl, rfl, rfl⟩, _, _, rfl, rfl, rA, rB, hb⟩
  · refine wpTL_call rfl (fun K hK => ?_)
    go_wp2_with fail
    refine hK _ _ ((below_alloc U _).mono (by omega)) ?_
    clear hK K
    try simp only [Act.put, List.setIfInBounds_toArray, List.set_cons_succ, List.set_cons_zero]
    refine wpTL_call rfl (fun K hK => ?_)
    go_wp2_with fail
    refine hK _ _ ((below_alloc (U.alloc (.cells #[.int .i64 0, .int .i64 0, .int .i64 0, .int .i64 0] 41)) _).mono (by simp; omega)) ?_
    clear hK K
    try simp only [Act.put, List.setIfInBounds_toArray, List.set_cons_succ, List.set_cons_zero]
    refine wpTL_call rfl (fun K hK => ?_)
    go_wp2_with fail
    refine hK _ _ (below22 U _ _ _ _ (by omega)) ?_
    clear hK K
    try simp only [Act.put, List.setIfInBounds_toArray, List.set_cons_succ, List.set_cons_zero]
    refine wpTL_call rfl (fun K hK => ?_)
    go_wp2_with fail
    refine hK _ _ (below22 U _ _ _ _ (by omega)) ?_
    clear hK K
    try simp only [Act.put, List.setIfInBounds_toArray, List.set_cons_succ, List.set_cons_zero]
    refine wpTL_nil ?_
    have rA := row_below (heap_alloc_new U (.cells #[.int .i64 (q1 : Int), .int .i64 (q2 : Int), .int .i64 (q3 : Int), .int .i64 (q4 : Int)] 41)) (below_alloc (U.alloc (.cells #[.int .i64 (q1 : Int), .int .i64 (q2 : Int), .int .i64 (q3 : Int), .int .i64 (q4 : Int)] 41)) (.cells #[.int .i64 (p1 : Int), .int .i64 (p2 : Int), .int .i64 (p3 : Int), .int .i64 (p4 : Int)] 41))
    have rB := heap_alloc_new (U.alloc (.cells #[.int .i64 (q1 : Int), .int .i64 (q2 : Int), .int .i64 (q3 : Int), .int .i64 (q4 : Int)] 41)) (.cells #[.int .i64 (p1 : Int), .int .i64 (p2 : Int), .int .i64 (p3 : Int), .int .i64 (p4 : Int)] 41)
    rw [World.size_alloc] at rB
    have hb := hdd.out.trans (((below_alloc U (.cells #[.int .i64 (q1 : Int), .int .i64 (q2 : Int), .int .i64 (q3 : Int), .int .i64 (q4 : Int)] 41)).trans ((below_alloc (U.alloc (.cells #[.int .i64 (q1 : Int), .int .i64 (q2 : Int), .int .i64 (q3 : Int), .int .i64 (q4 : Int)] 41)) (.cells #[.int .i64 (p1 : Int), .int .i64 (p2 : Int), .int .i64 (p3 : Int), .int .i64 (p4 : Int)] 41)).mono (by simp))).mono (Nat.le_of_eq hU.symm))
    rw [hU] at rA rB
    exact q_fr (N := 46) HQ.out rfl ⟨⟨rfl, rfl, rfl, rfl⟩, _, _, rfl, rfl, rB, rA, hb⟩
end Go.Proofs.Ytfbchmihkndfaaa
