/- FrameCarries: the last loop's small pieces. -/
import Derived.Test.YtjiipmalahhcpaaCarries30
namespace Go.Proofs.Ytjiipmalahhcpaa
set_option linter.unusedVariables false
open Go.RowKit

theorem own_at {W : World} {B T n c g : Nat} {xs : List Value} (h : W.ownsRow B T 1 (.slice (some ⟨g, 0, none⟩) n c) n xs) (j : Nat) (hj : j < n) : W.cell? ⟨g, j, none⟩ = xs[j]? := h.cellAt j (by omega)
set_option maxRecDepth 1000000 in
set_option maxHeartbeats 8000000 in
theorem car_80 (ja : Option Addr) (jn jc n S X Y i0 : Nat) (s : ST) (m : MA) (k i c ga gg fr : Nat) (fl gv : Bool) (hi : i < m.A.length) (hfr : fr < s.gs.length) (hA : m.A.length ≤ 200) (hga : m.aa = some ⟨ga, 0, none⟩) (hgg : m.ga = some ⟨gg, 0, none⟩) :
    Tri Try.prog 486 (pieceOf Try.f4 [1, 1, 1, 1, 1, 1, 1, 1, 1, 1, 1, 1, 1, 1, 1, 1, 1, 1, 1, 0, 1, 0, 0, 1, 0, 0, 1, 1, 0])
      (fun y w => SC y ja jn jc n S X Y i0 s m ∧ SZ y k i c ∧ y 43 = .bool fl ∧ w.cell? ⟨ga, i * 8, none⟩ = some (.int .i64 (fr : Int)) ∧ w.cell? ⟨gg, fr, none⟩ = some (.bool gv))
      (fun y w y' w' => SC y' ja jn jc n S X Y i0 s m ∧ SZ y' k i c ∧ y' 43 = .bool fl ∧ y' 44 = .bool (!gv) ∧ w' = w) := by
  rintro Q y w ⟨⟨s1, s5, s6, s8, s10, s12, s13, s14, s15, s16, s17, s18⟩, ⟨s40, s41, s42⟩, s43, f1, f2⟩ hQ
  have HQ := hid hQ
  rw [hga] at s13
  rw [hgg] at s16
  have Hga := hid hga
  have Hgg := hid hgg
  obtain ⟨an, han⟩ : ∃ an, an = m.A.length := ⟨_, rfl⟩
  obtain ⟨gn, hgn⟩ : ∃ gn, gn = s.gs.length := ⟨_, rfl⟩
  rw [← han] at s13 hi hA
  rw [← hgn] at s16 hfr
  have Han := hid han
  have Hgn := hid hgn
  have hiI : (i : Int) < (an : Int) := by omega
  have hfI : (fr : Int) < (gn : Int) := by omega
  clear hQ hga hgg han hgn
  conv => arg 2; whnf
  rw [fr486]
  simp only [s1, s5, s6, s8, s10, s12, s13, s14, s15, s16, s17, s18, s40, s41, s42, s43]
  clear s1 s5 s6 s8 s10 s12 s13 s14 s15 s16 s17 s18 s40 s41 s42 s43
  go_wp2_with fail
  refine q_fr (N := 486) HQ.out rfl ⟨⟨rfl, rfl, rfl, rfl, rfl, rfl, ?_, rfl, rfl, ?_, rfl, rfl⟩, ⟨rfl, rfl, rfl⟩, rfl, rfl, rfl⟩
  · rw [Hga.out, ← Han.out]; rfl
  · rw [Hgg.out, ← Hgn.out]; rfl
set_option maxRecDepth 1000000 in
set_option maxHeartbeats 8000000 in
theorem car_81 (ja : Option Addr) (jn jc n S X Y i0 : Nat) (s : ST) (m : MA) (k i c ga room : Nat) (fl wh : Bool) (sa : Option Addr) (sn sc : Nat) (p : PK) (hi : i < m.A.length) (hA : m.A.length ≤ 200) (hga : m.aa = some ⟨ga, 0, none⟩) (hn : n = 12 + room) (hr : 0 < room) (hr2 : room ≤ 2036) (hsn : sn = p.ds.length) (hsn2 : sn ≤ 65536) :
    Tri Try.prog 486 (pieceOf Try.f4 [1, 1, 1, 1, 1, 1, 1, 1, 1, 1, 1, 1, 1, 1, 1, 1, 1, 1, 1, 0, 1, 0, 0, 1, 0, 0, 1, 1, 1, 0])
      (fun y w => SC y ja jn jc n S X Y i0 s m ∧ SZ y k i c ∧ y 43 = .bool fl ∧ y 44 = .bool wh ∧ w.cell? ⟨ga, i * 8 + 1 + 1 + 5, none⟩ = some (.slice sa sn sc))
      (fun y w y' w' => SC y' ja jn jc n S X Y i0 s m ∧ SZ y' k i c ∧ y' 43 = .bool fl ∧ y' 44 = .bool wh ∧ y' 45 = .int .i64 (needOf room p : Int) ∧ w' = w) := by
  rintro Q y w ⟨⟨s1, s5, s6, s8, s10, s12, s13, s14, s15, s16, s17, s18⟩, ⟨s40, s41, s42⟩, s43, s44, f1⟩ hQ
  have HQ := hid hQ
  rw [hga] at s13
  have Hga := hid hga
  obtain ⟨an, han⟩ : ∃ an, an = m.A.length := ⟨_, rfl⟩
  rw [← han] at s13 hi hA
  have Han := hid han
  have hiI : (i : Int) < (an : Int) := by omega
  obtain ⟨u7, hu7⟩ : ∃ u, u = needOf room p := ⟨_, rfl⟩
  have hu7' : u7 = (sn + 6 + room - 2) / room + 1 := by rw [hu7, hsn]; rfl
  obtain ⟨u1, hu1⟩ : ∃ u, u = sn + 6 := ⟨_, rfl⟩
  obtain ⟨u2, hu2⟩ : ∃ u, u = u1 + n := ⟨_, rfl⟩
  obtain ⟨u3, hu3⟩ : ∃ u, u = u2 - 12 := ⟨_, rfl⟩
  obtain ⟨u4, hu4⟩ : ∃ u, u = u3 - 2 := ⟨_, rfl⟩
  obtain ⟨u6, hu6⟩ : ∃ u, u = u4 / room := ⟨_, rfl⟩
  have hu4' : u4 = sn + 6 + room - 2 := by omega
  have hu7'' : u7 = u6 + 1 := by rw [hu7', hu6, hu4']
  have hu6' : u6 ≤ u4 := by rw [hu6]; exact Nat.div_le_self _ _
  have b1 : (sn : Int) + 6 = (u1 : Int) := by omega
  have b2 : (u1 : Int) + (n : Int) = (u2 : Int) := by omega
  have b3 : (u2 : Int) - 12 = (u3 : Int) := by omega
  have b4 : (u3 : Int) - 2 = (u4 : Int) := by omega
  have b5 : (n : Int) - 12 = (room : Int) := by omega
  have b6 : (u4 : Int).tdiv (room : Int) = (u6 : Int) := by rw [Int.tdiv_eq_ediv_of_nonneg (by omega), hu6]; rfl
  have b7 : (u6 : Int) + 1 = (u7 : Int) := by omega
  have w1 : IntKind.i64.wrap (u1 : Int) = (u1 : Int) := IntWalk.i64_in _ (by omega)
  have w2 : IntKind.i64.wrap (u2 : Int) = (u2 : Int) := IntWalk.i64_in _ (by omega)
  have w3 : IntKind.i64.wrap (u3 : Int) = (u3 : Int) := IntWalk.i64_in _ (by omega)
  have w4 : IntKind.i64.wrap (u4 : Int) = (u4 : Int) := IntWalk.i64_in _ (by omega)
  have w5 : IntKind.i64.wrap (room : Int) = (room : Int) := IntWalk.i64_in _ (by omega)
  have w6 : IntKind.i64.wrap (u6 : Int) = (u6 : Int) := IntWalk.i64_in _ (by omega)
  have w7 : IntKind.i64.wrap (u7 : Int) = (u7 : Int) := IntWalk.i64_in _ (by omega)
  have e1 : ((room : Int) == 0) = false := by rw [beq_eq_false_iff_ne]; omega
  have e2 : ¬ room = 0 := by omega
  have Hu7 := hid hu7
  have Hn := hid hn
  clear hQ hga han hu1 hu2 hu3 hu4 hu6 hu7 hu7' hu7'' hu4' hu6' hn hsn
  conv => arg 2; whnf
  rw [fr486]
  simp only [s1, s5, s6, s8, s10, s12, s13, s14, s15, s16, s17, s18, s40, s41, s42, s43, s44]
  clear s1 s5 s6 s8 s10 s12 s13 s14 s15 s16 s17 s18 s40 s41 s42 s43 s44
  go_wp2_with fail
  refine q_fr (N := 486) HQ.out rfl ⟨⟨rfl, rfl, rfl, rfl, rfl, rfl, ?_, rfl, rfl, rfl, rfl, rfl⟩, ⟨rfl, rfl, rfl⟩, rfl, rfl, ?_, rfl⟩
  · rw [Hga.out, ← Han.out]; rfl
  · rw [← Hu7.out]; rfl
set_option maxRecDepth 1000000 in
set_option maxHeartbeats 8000000 in
theorem car_88 (ja : Option Addr) (jn jc n S X Y i0 : Nat) (s : ST) (m : MA) (k i c ga gg fr : Nat) (fl wh gv : Bool) (hi : i < m.A.length) (hfr : fr < s.gs.length) (hA : m.A.length ≤ 200) (hga : m.aa = some ⟨ga, 0, none⟩) (hgg : m.ga = some ⟨gg, 0, none⟩) (h1 : wh = true → fl = true) (h2 : fl = true → gv = false) :
    Tri Try.prog 486 (pieceOf Try.f4 [1, 1, 1, 1, 1, 1, 1, 1, 1, 1, 1, 1, 1, 1, 1, 1, 1, 1, 1, 0, 1, 0, 0, 1, 0, 0, 1, 1, 1, 1, 1, 0])
      (fun y w => SC y ja jn jc n S X Y i0 s m ∧ SZ y k i c ∧ y 43 = .bool fl ∧ y 44 = .bool wh ∧ w.cell? ⟨ga, i * 8, none⟩ = some (.int .i64 (fr : Int)) ∧ w.cell? ⟨gg, fr, none⟩ = some (.bool gv))
      (fun y w y' w' => SC y' ja jn jc n S X Y i0 s m ∧ SZ y' k i c ∧ y' 43 = .bool fl ∧ w' = w) := by
  rintro Q y w ⟨⟨s1, s5, s6, s8, s10, s12, s13, s14, s15, s16, s17, s18⟩, ⟨s40, s41, s42⟩, s43, s44, f1, f2⟩ hQ
  have HQ := hid hQ
  rw [hga] at s13
  rw [hgg] at s16
  have Hga := hid hga
  have Hgg := hid hgg
  obtain ⟨an, han⟩ : ∃ an, an = m.A.length := ⟨_, rfl⟩
  obtain ⟨gn, hgn⟩ : ∃ gn, gn = s.gs.length := ⟨_, rfl⟩
  rw [← han] at s13 hi hA
  rw [← hgn] at s16 hfr
  have Han := hid han
  have Hgn := hid hgn
  have hiI : (i : Int) < (an : Int) := by omega
  have hfI : (fr : Int) < (gn : Int) := by omega
  clear hQ hga hgg han hgn
  conv => arg 2; whnf
  rw [fr486]
  simp only [s1, s5, s6, s8, s10, s12, s13, s14, s15, s16, s17, s18, s40, s41, s42, s43, s44]
  clear s1 s5 s6 s8 s10 s12 s13 s14 s15 s16 s17 s18 s40 s41 s42 s43 s44
  cases fl with
  | true =>
    obtain rfl := h2 rfl
    clear h1 h2
    cases wh with
    | true =>
      go_wp2_with fail
      refine q_fr (N := 486) HQ.out rfl ⟨⟨rfl, rfl, rfl, rfl, rfl, rfl, ?_, rfl, rfl, ?_, rfl, rfl⟩, ⟨rfl, rfl, rfl⟩, rfl, rfl⟩
      · rw [Hga.out, ← Han.out]; rfl
      · rw [Hgg.out, ← Hgn.out]; rfl
    | false =>
      go_wp2_with fail
      refine q_fr (N := 486) HQ.out rfl ⟨⟨rfl, rfl, rfl, rfl, rfl, rfl, ?_, rfl, rfl, ?_, rfl, rfl⟩, ⟨rfl, rfl, rfl⟩, rfl, rfl⟩
      · rw [Hga.out, ← Han.out]; rfl
      · rw [Hgg.out, ← Hgn.out]; rfl
  | false =>
    have hwh : wh = false := by
      cases wh with
      | false => rfl
      | true => exact absurd (h1 rfl) (by decide)
    subst hwh
    clear h1 h2
    go_wp2_with fail
    refine q_fr (N := 486) HQ.out rfl ⟨⟨rfl, rfl, rfl, rfl, rfl, rfl, ?_, rfl, rfl, ?_, rfl, rfl⟩, ⟨rfl, rfl, rfl⟩, rfl, rfl⟩
    · rw [Hga.out, ← Han.out]; rfl
    · rw [Hgg.out, ← Hgn.out]; rfl
set_option maxRecDepth 1000000 in
set_option maxHeartbeats 8000000 in
theorem car_90 (ja : Option Addr) (jn jc n S X Y i0 : Nat) (s : ST) (m : MA) (k i c : Nat) (fl : Bool) (hk : k ≤ 1000) :
    Tri Try.prog 486 (pieceOf Try.f4 [1, 1, 1, 1, 1, 1, 1, 1, 1, 1, 1, 1, 1, 1, 1, 1, 1, 1, 1, 0, 1, 0, 0, 1, 0, 0, 1, 1, 1, 1, 1, 1])
      (fun y w => SC y ja jn jc n S X Y i0 s m ∧ SZ y k i c ∧ y 43 = .bool fl)
      (fun y w y' w' => SC y' ja jn jc n S X Y i0 s m ∧ y' 40 = .int .i64 ((k + (if fl = true then 1 else 0) : Nat) : Int) ∧ y' 41 = .int .i64 (i : Int) ∧ w' = w) := by
  rintro Q y w ⟨⟨s1, s5, s6, s8, s10, s12, s13, s14, s15, s16, s17, s18⟩, ⟨s40, s41, s42⟩, s43⟩ hQ
  have HQ := hid hQ
  clear hQ
  conv => arg 2; whnf
  rw [fr486]
  simp only [s1, s5, s6, s8, s10, s12, s13, s14, s15, s16, s17, s18, s40, s41, s42, s43]
  clear s1 s5 s6 s8 s10 s12 s13 s14 s15 s16 s17 s18 s40 s41 s42 s43
  cases fl with
  | true =>
    have a1 : IntKind.i64.wrap ((k : Int) + 1) = (k : Int) + 1 := IntWalk.i64_in _ (by omega)
    go_wp2_with fail
    refine q_fr (N := 486) HQ.out rfl ⟨⟨rfl, rfl, rfl, rfl, rfl, rfl, rfl, rfl, rfl, rfl, rfl, rfl⟩, ?_, rfl, rfl⟩
    rw [if_pos trivial]
    show Value.int .i64 _ = Value.int .i64 _
    go_num
  | false =>
    go_wp2_with fail
    exact q_fr (N := 486) HQ.out rfl ⟨⟨rfl, rfl, rfl, rfl, rfl, rfl, rfl, rfl, rfl, rfl, rfl, rfl⟩, rfl, rfl, rfl⟩
end Go.Proofs.Ytjiipmalahhcpaa
/- FrameCarries: were the frames that it lay in all heard? -/
namespace Go.Proofs.Ytjiipmalahhcpaa
set_option linter.unusedVariables false
open Go.RowKit

def wlM (v : Value) : Nat := (intOf v + 1).toNat
def WlI (w : World) (ja : Option Addr) (jn jc n S X Y i0 : Nat) (s : ST) (m : MA) (k i c fr : Nat) (fl tgt : Bool) (y : Nat → Value) (W : World) : Prop :=
  ∃ (q nd : Nat) (b : Bool), q ≤ fr + 1 ∧ nd ≤ 100000 ∧ SC y ja jn jc n S X Y i0 s m ∧ SZ y k i c ∧ y 43 = .bool fl ∧ y 44 = .bool b ∧ y 45 = .int .i64 (nd : Int) ∧ y 46 = .int .i64 ((q : Int) - 1) ∧ wl (csF s.cs) (gsF s.gs) c q nd b = tgt ∧ W = w
set_option maxRecDepth 1000000 in
set_option maxHeartbeats 16000000 in
theorem car_82 (ja : Option Addr) (jn jc n S X Y i0 : Nat) (s : ST) (m : MA) (k i c ga gc gg fr nd0 : Nat) (fl wh : Bool) (hi : i < m.A.length) (hfr : fr < s.cs.length) (hln : s.cs.length = s.gs.length) (hcs : s.cs.length ≤ 300) (hnd : nd0 ≤ 100000) (hA : m.A.length ≤ 200) (hga : m.aa = some ⟨ga, 0, none⟩) (hgc : m.ca = some ⟨gc, 0, none⟩) (hgg : m.ga = some ⟨gg, 0, none⟩) :
    Tri Try.prog 486 (pieceOf Try.f4 [1, 1, 1, 1, 1, 1, 1, 1, 1, 1, 1, 1, 1, 1, 1, 1, 1, 1, 1, 0, 1, 0, 0, 1, 0, 0, 1, 1, 1, 1, 0])
      (fun y w => SC y ja jn jc n S X Y i0 s m ∧ SZ y k i c ∧ y 43 = .bool fl ∧ y 44 = .bool wh ∧ y 45 = .int .i64 (nd0 : Int) ∧ w.cell? ⟨ga, i * 8, none⟩ = some (.int .i64 (fr : Int)) ∧ (∀ q, q < s.cs.length → w.cell? ⟨gc, q, none⟩ = some (.int .i64 (csF s.cs q : Int)) ∧ w.cell? ⟨gg, q, none⟩ = some (.bool (gsF s.gs q))))
      (fun y w y' w' => SC y' ja jn jc n S X Y i0 s m ∧ SZ y' k i c ∧ y' 43 = .bool fl ∧ y' 44 = .bool (wl (csF s.cs) (gsF s.gs) c (fr + 1) nd0 wh) ∧ w' = w) := by
  rintro Q y w ⟨⟨t1, t5, t6, t8, t10, t12, t13, t14, t15, t16, t17, t18⟩, ⟨t40, t41, t42⟩, t43, t44, t45, f1, hcell⟩ hQ
  have HQ := hid hQ
  have HC := hid hcell
  have Hga := hid hga
  have Hgc := hid hgc
  have Hgg := hid hgg
  rw [hga] at t13
  obtain ⟨an, han⟩ : ∃ an, an = m.A.length := ⟨_, rfl⟩
  rw [← han] at t13 hi hA
  have Han := hid han
  have hiI : (i : Int) < (an : Int) := by omega
  have Hln := hid hln
  clear hQ hcell hga hgc hgg han hln
  conv => arg 2; whnf
  refine wp_seq_k (fun K0 hK0 => ?_)
  rw [fr486]
  simp only [t1, t5, t6, t8, t10, t12, t13, t14, t15, t16, t17, t18, t40, t41, t42, t43, t44, t45]
  clear t1 t5 t6 t8 t10 t12 t13 t14 t15 t16 t17 t18 t40 t41 t42 t43 t44 t45
  go_wp2_with fail
  refine hK0.out _ _ ?_
  refine wp_block ?_
  refine wp_loop_fr 486 (WlI w ja jn jc n S X Y i0 s m k i c fr fl (wl (csF s.cs) (gsF s.gs) c (fr + 1) nd0 wh)) (fun y' _ => wlM (y' 46)) ⟨rfl, rfl, fr + 1, nd0, wh, Nat.le_refl _, hnd, ⟨rfl, rfl, rfl, rfl, rfl, rfl, by rw [Hga.out, ← Han.out]; rfl, rfl, rfl, rfl, rfl, rfl⟩, ⟨rfl, rfl, rfl⟩, rfl, rfl, rfl, ?_, rfl, rfl⟩ ?_
  · show Value.int .i64 (fr : Int) = Value.int .i64 (((fr + 1 : Nat) : Int) - 1)
    congr 1
    omega
  clear f1
  rintro z W ⟨q, nd, b, hq, hnd2, ⟨s1, s5, s6, s8, s10, s12, s13, s14, s15, s16, s17, s18⟩, ⟨s40, s41, s42⟩, s43, s44, s45, s46, htgt, rfl⟩
  have Htgt := hid htgt
  clear htgt
  rw [Hgc.out] at s15
  rw [Hgg.out] at s16
  obtain ⟨cn, hcn⟩ : ∃ cn, cn = s.cs.length := ⟨_, rfl⟩
  rw [← Hln.out] at s16
  rw [← hcn] at s15 s16
  have Hcn := hid hcn
  have hcn3 : cn ≤ 300 ∧ fr < cn := by omega
  clear hcn
  cases q with
  | zero =>
    have s46' : z 46 = .int .i64 (-1) := s46
    clear s46
    have HT : Hid (b = wl (csF s.cs) (gsF s.gs) c (fr + 1) nd0 wh) := Htgt.out
    rw [fr486]
    simp only [s1, s5, s6, s8, s10, s12, s13, s14, s15, s16, s17, s18, s40, s41, s42, s43, s44, s45, s46']
    clear s1 s5 s6 s8 s10 s12 s13 s14 s15 s16 s17 s18 s40 s41 s42 s43 s44 s45 s46'
    go_wp2_with fail
    refine q_fr (N := 486) HQ.out rfl ⟨⟨rfl, rfl, rfl, rfl, rfl, rfl, rfl, rfl, ?_, ?_, rfl, rfl⟩, ⟨rfl, rfl, rfl⟩, rfl, ?_, rfl⟩
    · rw [Hgc.out, ← Hcn.out]; rfl
    · rw [Hgg.out, ← Hln.out, ← Hcn.out]; rfl
    · rw [← HT.out]; rfl
  | succ q =>
    have s46' : z 46 = .int .i64 (q : Int) := by rw [s46]; congr 1; omega
    clear s46
    obtain ⟨c1, c2⟩ := HC.out q (by rw [← Hcn.out]; omega)
    have hqI : (q : Int) < (cn : Int) := by omega
    have d1 : decide ((0 : Int) ≤ (q : Int)) = true := decide_eq_true (by omega)
    have d2 : decide ((q : Int) ≥ 0) = true := decide_eq_true (by omega)
    have hst : Hid (wl (csF s.cs) (gsF s.gs) c (q + 1) nd b = if nd = 0 then b else if csF s.cs q = c then wl (csF s.cs) (gsF s.gs) c q (nd - 1) (b && !gsF s.gs q) else wl (csF s.cs) (gsF s.gs) c q nd b) := wl_succ _ _ _ _ _ _
    have ht := Htgt.out
    rw [hst.out] at ht
    obtain ⟨cq, hcq⟩ : ∃ cq, cq = csF s.cs q := ⟨_, rfl⟩
    obtain ⟨gq, hgq⟩ : ∃ gq, gq = gsF s.gs q := ⟨_, rfl⟩
    rw [← hcq] at c1 ht
    rw [← hgq] at c2 ht
    have HT := hid ht
    have a1 : IntKind.i64.wrap ((q : Int) - 1) = (q : Int) - 1 := IntWalk.i64_in _ (by omega)
    clear hcq hgq ht Htgt hst
    rw [fr486]
    simp only [s1, s5, s6, s8, s10, s12, s13, s14, s15, s16, s17, s18, s40, s41, s42, s43, s44, s45, s46']
    clear s1 s5 s6 s8 s10 s12 s13 s14 s15 s16 s17 s18 s40 s41 s42 s43 s44 s45
    have hmz : Hid (wlM (.int .i64 (q : Int)) = q + 1) := by unfold Hid wlM; show ((q : Int) + 1).toNat = q + 1; omega
    by_cases h0 : nd = 0
    · subst h0
      have HT2 : Hid (b = wl (csF s.cs) (gsF s.gs) c (fr + 1) nd0 wh) := by
        have := HT.out
        rw [if_pos rfl] at this
        exact this
      clear HT
      go_wp2_with fail
      refine q_fr (N := 486) HQ.out rfl ⟨⟨rfl, rfl, rfl, rfl, rfl, rfl, rfl, rfl, ?_, ?_, rfl, rfl⟩, ⟨rfl, rfl, rfl⟩, rfl, ?_, rfl⟩
      · rw [Hgc.out, ← Hcn.out]; rfl
      · rw [Hgg.out, ← Hln.out, ← Hcn.out]; rfl
      · rw [← HT2.out]; rfl
    · have d3 : decide ((0 : Int) < (nd : Int)) = true := decide_eq_true (by omega)
      have d4 : decide ((nd : Int) > 0) = true := decide_eq_true (by omega)
      have d5 : decide (0 < nd) = true := decide_eq_true (by omega)
      have HT2 := HT.out
      rw [if_neg h0] at HT2
      clear HT
      by_cases hce : cq = c
      · rw [if_pos hce] at HT2
        have HT3 := hid HT2
        subst hce
        have e1 : ((cq : Int) == (cq : Int)) = true := beq_self_eq_true _
        have e2 : decide ((cq : Int) = (cq : Int)) = true := decide_eq_true rfl
        obtain ⟨n1, hn1⟩ : ∃ n1, n1 = nd - 1 := ⟨_, rfl⟩
        have a2 : (nd : Int) - 1 = (n1 : Int) := by omega
        have a3 : IntKind.i64.wrap (n1 : Int) = (n1 : Int) := IntWalk.i64_in _ (by omega)
        have Hn1 := hid hn1
        have hn1b : n1 ≤ 100000 := by omega
        clear HT2 hn1
        cases b with
        | true =>
          go_wp2_with fail
          refine ⟨rfl, rfl, ⟨q, n1, !gq, by omega, hn1b, ⟨rfl, rfl, rfl, rfl, rfl, rfl, rfl, rfl, ?_, ?_, rfl, rfl⟩, ⟨rfl, rfl, rfl⟩, rfl, rfl, rfl, rfl, ?_, rfl⟩, ?_⟩
          · rw [Hgc.out, ← Hcn.out]; rfl
          · rw [Hgg.out, ← Hln.out, ← Hcn.out]; rfl
          · rw [Hn1.out]; exact HT3.out
          · rw [hmz.out]
            show ((q : Int) - 1 + 1).toNat < q + 1
            omega
        | false =>
          go_wp2_with fail
          refine ⟨rfl, rfl, ⟨q, n1, false, by omega, hn1b, ⟨rfl, rfl, rfl, rfl, rfl, rfl, rfl, rfl, ?_, ?_, rfl, rfl⟩, ⟨rfl, rfl, rfl⟩, rfl, rfl, rfl, rfl, ?_, rfl⟩, ?_⟩
          · rw [Hgc.out, ← Hcn.out]; rfl
          · rw [Hgg.out, ← Hln.out, ← Hcn.out]; rfl
          · rw [Hn1.out]; exact HT3.out
          · rw [hmz.out]
            show ((q : Int) - 1 + 1).toNat < q + 1
            omega
      · rw [if_neg hce] at HT2
        have HT3 := hid HT2
        have e1 : ((cq : Int) == (c : Int)) = false := by rw [beq_eq_false_iff_ne]; omega
        have e2 : decide ((cq : Int) = (c : Int)) = false := decide_eq_false (by omega)
        have e3 : (cq == c) = false := by rw [beq_eq_false_iff_ne]; exact hce
        clear HT2 hce
        go_wp2_with fail
        refine ⟨rfl, rfl, ⟨q, nd, b, by omega, hnd2, ⟨rfl, rfl, rfl, rfl, rfl, rfl, rfl, rfl, ?_, ?_, rfl, rfl⟩, ⟨rfl, rfl, rfl⟩, rfl, rfl, rfl, rfl, HT3.out, rfl⟩, ?_⟩
        · rw [Hgc.out, ← Hcn.out]; rfl
        · rw [Hgg.out, ← Hln.out, ← Hcn.out]; rfl
        · rw [hmz.out]
          show ((q : Int) - 1 + 1).toNat < q + 1
          omega
end Go.Proofs.Ytjiipmalahhcpaa
/- FrameCarries: the last loop. -/
namespace Go.Proofs.Ytjiipmalahhcpaa
set_option linter.unusedVariables false
open Go.RowKit

theorem same_ne2 (p p2 : PK) (ra sa : Option Addr) (rn rc sn sc : Nat) (h1 : p.up = p2.up) (h2 : p.se = p2.se) (h3 : p.pt = p2.pt) (hne : p.ct ≠ p2.ct) (W : World) (hr : Rd W ra rn rc (vb p.ds)) (hs : Rd W sa sn sc (vb p2.ds)) :
    Calls Try.prog 13 #[pagg ((ra, rn, rc), p), pagg ((sa, sn, sc), p2)] W fun e w' => e = .returned (.bool false) ∧ Below W.heap.size W w' := by
  obtain ⟨u, e, a, t, c, d⟩ := p
  obtain ⟨u2, e2, a2, t2, c2, d2⟩ := p2
  dsimp only at h1 h2 h3 hne hr hs
  subst h1 h2 h3
  exact same_ne u e a a2 t c c2 d d2 ra sa rn rc sn sc W hr hs hne
def LaI (W1 : World) (ja : Option Addr) (jn jc n S X Y i0 : Nat) (s : ST) (m : MA) (y : Nat → Value) (W : World) : Prop :=
  ∃ i, i ≤ m.A.length ∧ SC y ja jn jc n S X Y i0 s m ∧ y 40 = .int .i64 (cnt s.E i : Int) ∧ y 41 = .int .i64 (i : Int) ∧ Below W1.heap.size W1 W
theorem vin_at (l : List Nat) (j : Nat) (h : j < l.length) : (vin l)[j]? = some (.int .i64 (csF l j : Int)) := by
  unfold vin csF
  rw [List.getElem?_map, List.getElem?_eq_getElem h, List.getD_eq_getElem?_getD, List.getElem?_eq_getElem h]
  rfl
theorem vbo_at (l : List Bool) (j : Nat) (h : j < l.length) : (vbo l)[j]? = some (.bool (gsF l j)) := by
  unfold vbo gsF
  rw [List.getElem?_map, List.getElem?_eq_getElem h, List.getD_eq_getElem?_getD, List.getElem?_eq_getElem h]
  rfl
theorem tl_at {W : World} {B : Nat} {L : List TB} {g c : Nat} (h : RL W B 63 8 tcl (·.2.2) L (some ⟨g, 0, none⟩) c) (j : Nat) (hj : j < L.length) : TlAt W g j (L[j]).1 (L[j]).2.2.1.1 (L[j]).2.2.1.2.1 (L[j]).2.2.1.2.2 (L[j]).2.2.2 := by
  have hc : ∀ q, q < 8 → W.cell? ⟨g, j * 8 + q, none⟩ = (tcl L[j])[q]? := fun q hq => own_flat tcl tcl_len h.ow rfl j hj q hq
  refine ⟨hc 0 (by omega), ⟨hc 2 (by omega), hc 3 (by omega), hc 4 (by omega), hc 5 (by omega), hc 6 (by omega), hc 7 (by omega)⟩, (h.rd L[j] (List.getElem_mem _)).rd, ?_⟩
  rcases h.ow.2 with ⟨h0, _⟩ | ⟨g1, c1, cu, h0, _, h3, _⟩
  · cases h0
  · cases h0; exact row_lt h3
theorem car_79 (W : World) (B1 : Nat) (ja : Option Addr) (jn jc n S X Y i0 : Nat) (s : ST) (m : MA) (i c room k0 : Nat) (hM : CM W B1 S X Y n s m) (hR : RelC s m) (hC : CI room jn k0 s) (hP : PutF s) (hi : i < s.E.length) (hA : m.A.length ≤ 200) (hB : m.B.length ≤ 200) :
    Tri Try.prog 486 (pieceOf Try.f4 [1, 1, 1, 1, 1, 1, 1, 1, 1, 1, 1, 1, 1, 1, 1, 1, 1, 1, 1, 0, 1, 0, 0, 1, 0, 0, 1, 0])
      (fun y w => SC y ja jn jc n S X Y i0 s m ∧ SZ y (cnt s.E i) i c ∧ w = W)
      (fun y w y' w' => SC y' ja jn jc n S X Y i0 s m ∧ SZ y' (cnt s.E i) i c ∧ y' 43 = .bool s.E[i].fl ∧ Below w.heap.size w w') := by
  rintro Q y w ⟨hS, hZ, rfl⟩ hQ
  have hAl : m.A.length = s.E.length := by have := congrArg List.length hR.a; rwa [List.length_map, List.length_map] at this
  have hBl : m.B.length = (flg s.E).length := by have := congrArg List.length hR.b; rwa [List.length_map, List.length_map] at this
  have hiA : i < m.A.length := by omega
  obtain ⟨_, ha1, ha2, ha3⟩ := rel_a hR i hiA
  obtain ⟨ga, hga⟩ := own_addr hM.ra.ow (by omega)
  have hra := hM.ra
  rw [hga] at hra
  have tA := tl_at hra i hiA
  rw [ha1, ha3] at tA
  have hkle := cnt_le s.E i
  by_cases hk : cnt s.E i < m.B.length
  · obtain ⟨gb, hgb⟩ := own_addr hM.rb.ow (by omega)
    have hrb := hM.rb
    rw [hgb] at hrb
    have tB := tl_at hrb (cnt s.E i) hk
    obtain ⟨hk2, hb1, hb2, hb3⟩ := rel_b hR (cnt s.E i) hk
    rw [hb1, hb3] at tB
    cases hfl : s.E[i].fl with
    | true =>
      obtain ⟨_, heq⟩ := there_yes s.E i hi hfl
      rw [heq] at tB
      refine car_79s ja jn jc n S X Y i0 s m (cnt s.E i) i c gb ga _ _ _ _ _ _ _ _ _ _ hk hiA hB hA hga hgb true rfl (fun W hr hs => same_eq _ _ _ _ _ _ _ W hr hs) Q y w ⟨hS, hZ, tB, tA⟩ ?_
      rintro y' w' h
      exact hQ y' w' (by rw [hfl]; exact h)
    | false =>
      have hne := there_no hC i hi hfl (by omega)
      by_cases hfr : ((flg s.E)[cnt s.E i]).fr = (s.E[i]).fr
      · have hmb := e_put hC (List.mem_filter.1 (List.getElem_mem hk2)).1
        have hma := e_put hC (List.getElem_mem hi)
        obtain ⟨p1, p2, p3⟩ := hP _ hmb
        obtain ⟨q1, q2, q3⟩ := hP _ hma
        refine car_79s ja jn jc n S X Y i0 s m (cnt s.E i) i c gb ga _ _ _ _ _ _ _ _ _ _ hk hiA hB hA hga hgb false hfr (fun W hr hs => same_ne2 _ _ _ _ _ _ _ _ (p1.trans q1.symm) (p2.trans q2.symm) (p3.trans q3.symm) hne W hr hs) Q y w ⟨hS, hZ, tB, tA⟩ ?_
        rintro y' w' h
        exact hQ y' w' (by rw [hfl]; exact h)
      · refine car_79f ja jn jc n S X Y i0 s m (cnt s.E i) i c gb ga _ _ _ _ _ _ _ _ _ _ hk hiA hB hA hga hgb hfr Q y w ⟨hS, hZ, tB, tA⟩ ?_
        rintro y' w' h
        exact hQ y' w' (by rw [hfl]; exact h)
  · have hfl : s.E[i].fl = false := by
      cases h : s.E[i].fl with
      | false => rfl
      | true =>
        obtain ⟨h1, _⟩ := there_yes s.E i hi h
        omega
    refine car_79n ja jn jc n S X Y i0 s m (cnt s.E i) i c (by omega) Q y w ⟨hS, hZ⟩ ?_
    rintro y' w' h
    exact hQ y' w' (by rw [hfl]; exact h)
set_option maxRecDepth 1000000 in
set_option maxHeartbeats 16000000 in
theorem car_la (W1 : World) (B1 : Nat) (ja : Option Addr) (jn jc n S X Y i0 : Nat) (s : ST) (m : MA) (room k0 : Nat) (hM1 : CM W1 B1 S X Y n s m) (hR : RelC s m) (hC : CI room jn k0 s) (hP : PutF s) (hn : n = 12 + room) (hr0 : 0 < room) (hr2 : room ≤ 2036) (hjn : jn ≤ 200) (hk0 : k0 ≤ 240) :
    Tri Try.prog 486 (pieceOf Try.f4 [1, 1, 1, 1, 1, 1, 1, 1, 1, 1, 1, 1, 1, 1, 1, 1, 1, 1, 1, 0]) (fun y w => SC y ja jn jc n S X Y i0 s m ∧ y 40 = .int .i64 0 ∧ Below W1.heap.size W1 w)
      (fun y w y' w' => SC y' ja jn jc n S X Y i0 s m ∧ y' 40 = .int .i64 (m.B.length : Int) ∧ Below W1.heap.size W1 w') := by
  rintro Q y w ⟨⟨t1, t5, t6, t8, t10, t12, t13, t14, t15, t16, t17, t18⟩, t40, hb⟩ hQ
  have HQ := hid hQ
  have hAl : m.A.length = s.E.length := by have := congrArg List.length hR.a; rwa [List.length_map, List.length_map] at this
  have hBl : m.B.length = (flg s.E).length := by have := congrArg List.length hR.b; rwa [List.length_map, List.length_map] at this
  have hA200 : m.A.length ≤ 200 := by have := sub_len hC; have := hC.lp; omega
  have hB200 : m.B.length ≤ 200 := by have : (flg s.E).length ≤ s.E.length := List.length_filter_le _ _; omega
  have hcs : s.cs.length ≤ 300 := by have := hC.lc; omega
  have HM1 := hid hM1
  have HR := hid hR
  have HC := hid hC
  have HP := hid hP
  have HAl := hid hAl
  have HBl := hid hBl
  have Hn := hid hn
  have HB := hid hb
  clear hQ hM1 hR hC hP hAl hBl hn hb
  conv => arg 2; whnf
  refine wp_seq_k (fun K0 hK0 => ?_)
  rw [fr486]
  simp only [t1, t5, t6, t8, t10, t12, t13, t14, t15, t16, t17, t18, t40]
  clear t1 t5 t6 t8 t10 t12 t13 t14 t15 t16 t17 t18 t40
  go_wp2_with fail
  refine hK0.out _ _ ?_
  refine wp_block ?_
  refine wp_loop_fr 486 (LaI W1 ja jn jc n S X Y i0 s m) (fun y' _ => 300 - (intOf (y' 41)).toNat) ⟨rfl, rfl, 0, Nat.zero_le _, ⟨rfl, rfl, rfl, rfl, rfl, rfl, rfl, rfl, rfl, rfl, rfl, rfl⟩, rfl, rfl, HB.out⟩ ?_
  clear HB
  rintro z W ⟨i, hi, ⟨s1, s5, s6, s8, s10, s12, s13, s14, s15, s16, s17, s18⟩, s40, s41, hb⟩
  have HB := hid hb
  clear hb
  rw [fr486]
  simp only [s1, s5, s6, s8, s10, s12, s13, s14, s15, s16, s17, s18, s40, s41]
  clear s1 s5 s6 s8 s10 s12 s13 s14 s15 s16 s17 s18 s40 s41
  by_cases hlt : i < m.A.length
  · have d1 : decide ((i : Int) < (m.A.length : Int)) = true := decide_eq_true (by omega)
    have hM := HM1.out.below HB.out
    obtain ⟨ga, hga⟩ := own_addr hM.ra.ow (by omega)
    have hrow := hM.ra.ow
    rw [hga] at hrow
    have x1 : W.cell? ⟨ga, i * 8 + 1, none⟩ = some (.int .i64 ((m.A[i]).2.1 : Int)) := own_flat tcl tcl_len hrow rfl i hlt 1 (by omega)
    obtain ⟨hie, ha1, ha2, ha3⟩ := rel_a HR.out i hlt
    have hE := HC.out.ec s.E[i] (List.getElem_mem _)
    rw [ha2] at x1
    have HE := hid hE
    have hklt : cnt s.E i ≤ 200 := by have := cnt_le s.E i; have := HBl.out; omega
    obtain ⟨c, hc⟩ : ∃ c, c = (s.E[i]).ch := ⟨_, rfl⟩
    rw [← hc] at x1
    obtain ⟨fr, hfr⟩ : ∃ fr, fr = (s.E[i]).fr := ⟨_, rfl⟩
    have Hc := hid hc
    have Hfr := hid hfr
    have Hga := hid hga
    have hfl1 := hE.lt
    rw [← hfr] at hfl1
    obtain ⟨gc, hgc⟩ := own_addr hM.rc (by omega)
    obtain ⟨gg, hgg⟩ := own_addr hM.rg (by have := HC.out.ln; omega)
    have Hgc := hid hgc
    have Hgg := hid hgg
    have hfg : fr < s.gs.length := by have := HC.out.ln; omega
    have Hfg := hid hfg
    obtain ⟨an, han⟩ : ∃ an, an = m.A.length := ⟨_, rfl⟩
    rw [hga, ← han]
    have d1' : decide ((i : Int) < (an : Int)) = true := by rw [han]; exact d1
    have hiI : (i : Int) < (an : Int) := by omega
    have Han := hid han
    have h79 := fun (W : World) (h : CM W B1 S X Y n s m) => car_79 W B1 ja jn jc n S X Y i0 s m i c room k0 h HR.out HC.out HP.out hie hA200 hB200
    have H79 := hid h79
    have hsn := hM.ra.ln m.A[i] (List.getElem_mem _)
    rw [ha3] at hsn
    have hsn2 : (s.E[i]).pk.ds.length ≤ 65536 := ((HC.out.pc _ (e_put HC.out (List.getElem_mem hie))).2.2).hi
    have Hsn := hid hsn
    have Hsn2 := hid hsn2
    have hcnt := hid (cnt_succ s.E i hie)
    clear hM hrow hE hc hfr hga hgc hgg hfg han ha1 ha2 ha3 h79 hsn hsn2 d1 hi
    generalize hkk : cnt s.E i = kk at *
    have Hkk := hid hkk
    clear hkk
    go_upto_block 13 with (fail)
    refine wp_block ?_
    refine wp_seq_k (fun K1 hK1 => ?_)
    go_wp2_with fail
    refine hK1.out _ _ ?_
    clear x1 d1'
    refine wp_seq_k (fun K2 hK2 => ?_)
    refine Tri.use (H79.out W (HM1.out.below HB.out)) rfl ⟨⟨rfl, rfl, rfl, rfl, rfl, rfl, ?_, rfl, rfl, rfl, rfl, rfl⟩, ⟨?_, rfl, rfl⟩, rfl⟩ ?_
    · rw [Hga.out, ← Han.out]; rfl
    · exact rfl
    rintro y2 W2 ⟨hS2, hZ2, s43, hb2⟩
    refine hK2.out _ _ ?_
    have hB2 := HB.out.trans (hb2.mono HB.out.size)
    have hM2 := HM1.out.below hB2
    have hra := hM2.ra
    rw [Hga.out] at hra
    have tA := tl_at hra i hlt
    obtain ⟨_, ha1, ha2, ha3⟩ := rel_a HR.out i hlt
    rw [ha1, ha3, ← Hfr.out] at tA
    have hrc := hM2.rc
    rw [Hgc.out] at hrc
    have hrg := hM2.rg
    rw [Hgg.out] at hrg
    have hcc : ∀ q, q < s.cs.length → W2.cell? ⟨gc, q, none⟩ = some (.int .i64 (csF s.cs q : Int)) ∧ W2.cell? ⟨gg, q, none⟩ = some (.bool (gsF s.gs q)) := fun q hq => ⟨(own_at hrc q hq).trans (vin_at _ _ hq), (own_at hrg q (by have := HC.out.ln; omega)).trans (vbo_at _ _ (by have := HC.out.ln; omega))⟩
    obtain ⟨hcf, hgf⟩ := hcc fr (by have := HE.out.lt; have := Hfr.out; omega)
    refine wp_seq_k (fun K3 hK3 => ?_)
    refine car_80 ja jn jc n S X Y i0 s m kk i c ga gg fr (s.E[i]).fl (gsF s.gs fr) hlt Hfg.out hA200 Hga.out Hgg.out _ y2 W2 ⟨hS2, hZ2, s43, tA.fr, hgf⟩ ?_
    rintro y3 W3 ⟨hS3, hZ3, s43', s44, rfl⟩
    refine hK3.out _ _ ?_
    refine wp_seq_k (fun K4 hK4 => ?_)
    refine car_81 ja jn jc n S X Y i0 s m kk i c ga room (s.E[i]).fl (!gsF s.gs fr) _ _ _ (s.E[i]).pk hlt hA200 Hga.out Hn.out hr0 hr2 Hsn.out (by rw [Hsn.out]; exact Hsn2.out) _ y3 W3 ⟨hS3, hZ3, s43', s44, tA.pk.x5⟩ ?_
    rintro y4 W4 ⟨hS4, hZ4, s43'', s44', s45, rfl⟩
    refine hK4.out _ _ ?_
    have hnd : needOf room (s.E[i]).pk ≤ 100000 := by
      unfold needOf
      have h1 := Nat.div_le_self ((s.E[i]).pk.ds.length + 6 + room - 2) room
      have h2 := Hsn2.out
      omega
    refine wp_seq_k (fun K5 hK5 => ?_)
    refine car_82 ja jn jc n S X Y i0 s m kk i c ga gc gg fr (needOf room (s.E[i]).pk) (s.E[i]).fl (!gsF s.gs fr) hlt (by have := HE.out.lt; have := Hfr.out; omega) HC.out.ln hcs hnd hA200 Hga.out Hgc.out Hgg.out _ y4 W4 ⟨hS4, hZ4, s43'', s44', s45, tA.fr, hcc⟩ ?_
    rintro y5 W5 ⟨hS5, hZ5, s43a, s44a, rfl⟩
    refine hK5.out _ _ ?_
    have hwh : wl (csF s.cs) (gsF s.gs) c (fr + 1) (needOf room (s.E[i]).pk) (!gsF s.gs fr) = wholeE room s.cs s.gs s.E[i] := by
      rw [Hc.out, Hfr.out]
      rfl
    rw [hwh] at s44a
    refine wp_seq_k (fun K6 hK6 => ?_)
    refine car_88 ja jn jc n S X Y i0 s m kk i c ga gg fr (s.E[i]).fl (wholeE room s.cs s.gs s.E[i]) (gsF s.gs fr) hlt Hfg.out hA200 Hga.out Hgg.out HE.out.whl (fun h => by rw [Hfr.out]; exact HE.out.nog h) _ y5 W5 ⟨hS5, hZ5, s43a, s44a, tA.fr, hgf⟩ ?_
    rintro y6 W6 ⟨hS6, hZ6, s43b, rfl⟩
    refine hK6.out _ _ ?_
    refine car_90 ja jn jc n S X Y i0 s m kk i c (s.E[i]).fl (by omega) _ y6 W6 ⟨hS6, hZ6, s43b⟩ ?_
    rintro y7 W7 ⟨⟨s1, s5, s6, s8, s10, s12, s13, s14, s15, s16, s17, s18⟩, s40, s41, rfl⟩
    have HB2 := hid hB2
    clear hS2 hZ2 s43 hb2 hB2 hM2 hra tA ha1 ha2 ha3 hrc hrg hcc hcf hgf hS3 hZ3 s43' s44 hS4 hZ4 s43'' s44' s45 hnd hS5 hZ5 s43a s44a hwh hS6 hZ6 s43b
    rw [← hcnt.out] at s40
    obtain ⟨k2, hk2⟩ : ∃ k2, k2 = cnt s.E (i + 1) := ⟨_, rfl⟩
    rw [← hk2] at s40
    have Hk2 := hid hk2
    clear hk2
    rw [fr486]
    simp only [s1, s5, s6, s8, s10, s12, s13, s14, s15, s16, s17, s18, s40, s41]
    clear s1 s5 s6 s8 s10 s12 s13 s14 s15 s16 s17 s18 s40 s41
    go_wp2_with fail
    refine ⟨rfl, rfl, ⟨i + 1, by omega, ⟨rfl, rfl, rfl, rfl, rfl, rfl, rfl, rfl, rfl, rfl, rfl, rfl⟩, ?_, ?_, HB2.out⟩, ?_⟩
    · rw [← Hk2.out]; rfl
    · show Value.int .i64 _ = Value.int .i64 _
      go_num
    · show 300 - (intOf (Value.int .i64 _)).toNat < _
      simp [intOf]
      omega
  · obtain rfl : i = m.A.length := by omega
    have d1 : decide (((m.A.length : Nat) : Int) < (m.A.length : Int)) = false := decide_eq_false (by omega)
    have hcn : cnt s.E m.A.length = m.B.length := by rw [HAl.out, cnt_all, ← HBl.out]
    rw [hcn]
    clear hcn
    go_wp2_with fail
    exact q_fr (N := 486) HQ.out rfl ⟨⟨rfl, rfl, rfl, rfl, rfl, rfl, rfl, rfl, rfl, rfl, rfl, rfl⟩, rfl, HB.out⟩
end Go.Proofs.Ytjiipmalahhcpaa
