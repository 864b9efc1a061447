/- two, Grow, Concat, Clone: bytes put together. -/
import Derived.Test.YtjiipmalahhcpaaProg
import Derived.Test.YtjiipmalahhcpaaCarries2
import Derived.WalkKit
import Derived.WalkSpells
import Derived.Lib.AppendZeros
namespace Go.Proofs.Ytjiipmalahhcpaa
set_option linter.unusedVariables false
open Go.RowKit

set_option maxRecDepth 1000000 in
theorem Try.info5 : (Try.prog.info? 5).map (fun i => (i.zero, i.size, i.bytes)) = some (some (.int .u8 0), 1, 1) := by kernel_rfl

set_option maxRecDepth 1000000 in
theorem two_any (z : Int) (n : Nat) (w : World) (hz : z = n) (hn : n < 65536) :
    Calls Try.prog 17 #[.int .i64 z] w fun e w' => ∃ g, e = .returned (.slice (some ⟨g, 0, none⟩) 2 2) ∧ w'.ownsRow w.heap.size 5 1 (.slice (some ⟨g, 0, none⟩) 2 2) 2 (vb [n / 256, n % 256]) ∧ Below w.heap.size w w' := by
  subst hz
  go_enter Try.func17, Try.ntmps17
  go_wp2_with fail
  go_ret
  have h := World.ownsRow_lit (base := w.heap.size) (e := 5) (size := 1) w #[.int .u8 ((n : Int) / 256), .int .u8 ((n : Int) % 256)] 2 (Nat.le_refl _) (by unfold maxLen; omega) rfl
  exact ⟨_, rfl, by simpa [vb] using h, below_alloc _ _⟩

set_option maxRecDepth 1000000 in
theorem grow_zero (w : World) : Calls Try.prog 31 #[.slice none 0 0, .int .i64 0] w fun e w' => e = .returned (.slice none 0 0) ∧ w' = w := by
  go_enter Try.func31, Try.ntmps31
  go_wp2
  go_ret
  exact ⟨rfl, rfl⟩

set_option maxRecDepth 1000000 in
theorem grow_any (z : Int) (n : Nat) (w : World) (hz : z = n) (hn : n ≤ 140737488355328) :
    Calls Try.prog 31 #[.slice none 0 0, .int .i64 z] w fun e w' => ∃ v, e = .returned v ∧ w'.ownsRow w.heap.size 5 1 v 0 [] ∧ Below w.heap.size w w' := by
  subst hz
  by_cases h0 : n = 0
  · subst h0
    exact (grow_zero w).mono fun e w' ⟨he, hw⟩ => by subst hw; exact ⟨_, he, World.ownsRow_nil _ _ _ _, Below.refl _ _⟩
  · obtain ⟨i0, hi, hz0, hz1, hz2⟩ := info_parts Try.info5
    have hp : (0 : Int) < n := by omega
    go_enter Try.func31, Try.ntmps31
    go_wp2_with (at_builtin; refine hold ?_)
    unfold Hid
    have h := Lib.run_append_nil_zeros (P := Try.prog) w 33 3 33 5 i0 (.int .u8 0) .i64 .i64 Try.underlying33 Try.underlying3 hi hz0 n (by omega) (by omega) (by omega) (by rw [hz2]; omega)
    refine Lib.wpList_append_run _ rfl _ _ 33 3 rfl (.slice none 0 0) (.int .i64 n) rfl rfl _ _ h ?_
    have hc1 := grownCap_ge w n 0 5
    have hc2 := grownCap_le_maxLen w n 0 5 (by unfold maxLen; omega)
    generalize grownCap w n 0 5 = c at *
    go_wp2_with fail
    clear h
    go_ret
    refine ⟨_, rfl, ?_, (below_alloc _ _).drew⟩
    refine World.ownsRow.drew ?_
    refine ⟨rfl, .inr ⟨w.heap.size, c, _, rfl, Nat.le_refl _, heap_alloc_new w _, Nat.zero_le _, hc2, ?_, by simp⟩⟩
    rw [Array.size_append, size_zeroCells, size_zeroCells]
    simp
    omega

set_option maxRecDepth 1000000 in
theorem cat_any (aa ba ca da : Option Addr) (an ac bn bc cn cc dn dc : Nat) (xs ys zs us : List Nat) (G : Nat) (w : World)
    (ha : Rd w aa an ac (vb xs)) (hb : Rd w ba bn bc (vb ys)) (hc : Rd w ca cn cc (vb zs)) (hd : Rd w da dn dc (vb us))
    (hG : ∀ j u, [Value.slice aa an ac, .slice ba bn bc, .slice ca cn cc, .slice da dn dc][j]? = some u → w.cell? ((⟨G, 0, none⟩ : Addr).add j) = some u)
    (hGl : G < w.heap.size) (hn : an + bn + cn + dn ≤ 140737488355328) :
    Calls Try.prog 16 #[.slice (some ⟨G, 0, none⟩) 4 4] w fun e w' => ∃ ao c, e = .returned (.slice ao (an + bn + cn + dn) c) ∧ w'.ownsRow w.heap.size 5 1 (.slice ao (an + bn + cn + dn) c) (an + bn + cn + dn) (vb (xs ++ ys ++ zs ++ us)) ∧ Below w.heap.size w w' := by
  have g0 : w.cell? ⟨G, 0, none⟩ = some (.slice aa an ac) := by simpa [Addr.add] using hG 0 _ rfl
  have g1 : w.cell? ⟨G, 1, none⟩ = some (.slice ba bn bc) := by simpa [Addr.add] using hG 1 _ rfl
  have g2 : w.cell? ⟨G, 2, none⟩ = some (.slice ca cn cc) := by simpa [Addr.add] using hG 2 _ rfl
  have g3 : w.cell? ⟨G, 3, none⟩ = some (.slice da dn dc) := by simpa [Addr.add] using hG 3 _ rfl
  clear hG
  go_enter Try.func16, Try.ntmps16
  go_wp2_with fail
  refine wp_loop_rounds 5 ?_
  rw [rounds_succ]
  go_wp2_with fail
  rw [rounds_succ]
  go_wp2_with fail
  rw [rounds_succ]
  go_wp2_with fail
  rw [rounds_succ]
  go_wp2_with fail
  rw [rounds_succ]
  go_wp2_with fail
  refine (grow_any _ (an + bn + cn + dn) _ (by push_cast; rfl) hn).mono ?_
  rintro e W0 ⟨v, rfl, o0, B0⟩
  obtain ⟨v0a, v0c, rfl, _, _⟩ := own_slice o0
  obtain ⟨i0, hi, hz0, hz1, hz2⟩ := info_parts Try.info5
  have c0 := (B0.cell (p := ⟨G, 0, none⟩) hGl).trans g0
  have c1 := (B0.cell (p := ⟨G, 1, none⟩) hGl).trans g1
  have c2 := (B0.cell (p := ⟨G, 2, none⟩) hGl).trans g2
  have c3 := (B0.cell (p := ⟨G, 3, none⟩) hGl).trans g3
  have o0' : W0.ownsRow w.heap.size 5 1 (.slice v0a 0 v0c) 0 (vb []) := o0
  clear o0
  have o0 := o0'
  clear o0'
  go_wp2_with fail
  refine wp_loop_rounds 5 ?_
  rw [rounds_succ]
  go_wp2_with (at_builtin; refine hold ?_)
  unfold Hid
  refine wpList_append_rd rfl _ _ 33 rfl w.heap.size 5 i0 (.int .u8 0) 1 Try.underlying33 hi hz0 hz1 hz2 rfl v0a 0 v0c _ rfl o0 aa an ac _ rfl (ha.below B0) (vb_oneCell _) (by omega) (by unfold maxLen; omega) B0.size ?_
  intro v1a v1c W1 o1 gr B
  rw [← vb_append] at o1
  simp only [Nat.zero_add, List.nil_append] at o1
  have B1 := B0.trans B
  clear gr B o0 c0 c1 c2 c3
  have c0 := (B1.cell (p := ⟨G, 0, none⟩) hGl).trans g0
  have c1 := (B1.cell (p := ⟨G, 1, none⟩) hGl).trans g1
  have c2 := (B1.cell (p := ⟨G, 2, none⟩) hGl).trans g2
  have c3 := (B1.cell (p := ⟨G, 3, none⟩) hGl).trans g3
  clear B0
  go_wp2_with fail
  rw [rounds_succ]
  go_wp2_with (at_builtin; refine hold ?_)
  unfold Hid
  refine wpList_append_rd rfl _ _ 33 rfl w.heap.size 5 i0 (.int .u8 0) 1 Try.underlying33 hi hz0 hz1 hz2 rfl v1a an v1c _ rfl o1 ba bn bc _ rfl (hb.below B1) (vb_oneCell _) (by omega) (by unfold maxLen; omega) B1.size ?_
  intro v2a v2c W2 o2 gr B
  rw [← vb_append] at o2
  have B2 := B1.trans B
  clear gr B o1 c0 c1 c2 c3
  have c0 := (B2.cell (p := ⟨G, 0, none⟩) hGl).trans g0
  have c1 := (B2.cell (p := ⟨G, 1, none⟩) hGl).trans g1
  have c2 := (B2.cell (p := ⟨G, 2, none⟩) hGl).trans g2
  have c3 := (B2.cell (p := ⟨G, 3, none⟩) hGl).trans g3
  clear B1
  go_wp2_with fail
  rw [rounds_succ]
  go_wp2_with (at_builtin; refine hold ?_)
  unfold Hid
  refine wpList_append_rd rfl _ _ 33 rfl w.heap.size 5 i0 (.int .u8 0) 1 Try.underlying33 hi hz0 hz1 hz2 rfl v2a (an + bn) v2c _ rfl o2 ca cn cc _ rfl (hc.below B2) (vb_oneCell _) (by omega) (by unfold maxLen; omega) B2.size ?_
  intro v3a v3c W3 o3 gr B
  rw [← vb_append] at o3
  have B3 := B2.trans B
  clear gr B o2 c0 c1 c2 c3
  have c0 := (B3.cell (p := ⟨G, 0, none⟩) hGl).trans g0
  have c1 := (B3.cell (p := ⟨G, 1, none⟩) hGl).trans g1
  have c2 := (B3.cell (p := ⟨G, 2, none⟩) hGl).trans g2
  have c3 := (B3.cell (p := ⟨G, 3, none⟩) hGl).trans g3
  clear B2
  go_wp2_with fail
  rw [rounds_succ]
  go_wp2_with (at_builtin; refine hold ?_)
  unfold Hid
  refine wpList_append_rd rfl _ _ 33 rfl w.heap.size 5 i0 (.int .u8 0) 1 Try.underlying33 hi hz0 hz1 hz2 rfl v3a (an + bn + cn) v3c _ rfl o3 da dn dc _ rfl (hd.below B3) (vb_oneCell _) (by omega) (by unfold maxLen; omega) B3.size ?_
  intro v4a v4c W4 o4 gr B
  rw [← vb_append] at o4
  have B4 := B3.trans B
  clear gr B o3 c0 c1 c2 c3
  have c0 := (B4.cell (p := ⟨G, 0, none⟩) hGl).trans g0
  have c1 := (B4.cell (p := ⟨G, 1, none⟩) hGl).trans g1
  have c2 := (B4.cell (p := ⟨G, 2, none⟩) hGl).trans g2
  have c3 := (B4.cell (p := ⟨G, 3, none⟩) hGl).trans g3
  clear B3
  go_wp2_with fail
  rw [rounds_succ]
  go_wp2_with fail
  go_ret
  exact ⟨_, _, rfl, o4, B4⟩

set_option maxRecDepth 1000000 in
theorem clone_nil (w : World) : Calls Try.prog 21 #[.slice none 0 0] w fun e w' => e = .returned (.slice none 0 0) ∧ Below w.heap.size w w' := by
  have hk := fun (w : World) => Lib.run_eql_slice_nil (P := Try.prog) w 33 5 none 0 0 0 0 Try.underlying33
  go_enter Try.func21, Try.ntmps21
  go_wp2
  go_ret
  exact ⟨rfl, Below.refl _ _⟩

set_option maxRecDepth 1000000 in
theorem clone_some (a : Addr) (n cap : Nat) (bs : List Nat) (w : World) (hq : Rd w (some a) n cap (vb bs)) (hn : n ≤ 140737488355328) :
    Calls Try.prog 21 #[.slice (some a) n cap] w fun e w' => ∃ g c, e = .returned (.slice (some ⟨g, 0, none⟩) n c) ∧ w'.ownsRow w.heap.size 5 1 (.slice (some ⟨g, 0, none⟩) n c) n (vb bs) ∧ Below w.heap.size w w' := by
  obtain ⟨i0, hi, hz0, hz1, hz2⟩ := info_parts Try.info5
  have hk := fun (w : World) => Lib.run_eql_slice_nil (P := Try.prog) w 33 5 (some a) n cap 0 0 Try.underlying33
  have hn0 : (w.alloc (.cells #[] 5)).ownsRow w.heap.size 5 1 (.slice (some ⟨w.heap.size, 0, none⟩) 0 0) 0 [] := World.ownsRow_lit (base := w.heap.size) (e := 5) (size := 1) w #[] 0 (Nat.le_refl _) (Nat.zero_le _) rfl
  have hlen := hq.len
  have hcells : ∀ j u, (vb bs)[j]? = some u → (w.alloc (.cells #[] 5)).cell? (a.add j) = some u := by
    intro j u hj
    have hjn : j < n := by have := (List.getElem?_eq_some_iff.1 hj).1; omega
    obtain ⟨b, off, ha, hlt, hc⟩ := hq.mem (by omega)
    cases ha
    rw [Addr.add_lit, World.cell?_alloc_past _ _ _ hlt, hc j hjn]
    exact hj
  go_enter Try.func21, Try.ntmps21
  go_wp2_with (at_builtin; refine wpList_append_own _ rfl _ _ 33 rfl w.heap.size 5 i0 (.int .u8 0) 1 1 Try.underlying33 hi hz0 hz1 hz2 rfl (by decide) _ 0 [] rfl hn0 a n cap (vb bs) rfl ?c1 hcells (vb_oneCell bs) ?c2 ?c3 ?c4 ?_)
  case c1 => omega
  case c2 => unfold maxLen; omega
  case c3 => omega
  case c4 => simp
  intro v' w1 hown' hg hnil
  obtain ⟨ao, c, rfl, hc1, hc2, hc3⟩ := own_form hown'
  rcases hc3 with ⟨rfl, h0, h1⟩ | ⟨g, rfl, hg1, hg2⟩
  · exfalso
    simp_all
  go_wp2
  go_ret
  exact ⟨g, c, rfl, hown', ((Below.refl _ w).alloc (Nat.le_refl _) _).grown hg (by simp) (fun k e => by cases e; exact Nat.le_refl _)⟩

set_option maxRecDepth 1000000 in
theorem clone_any (ao : Option Addr) (n cap : Nat) (bs : List Nat) (w : World) (hq : Rd w ao n cap (vb bs)) (hn : n ≤ 140737488355328) :
    Calls Try.prog 21 #[.slice ao n cap] w fun e w' => ∃ ao' c, e = .returned (.slice ao' n c) ∧ w'.ownsRow w.heap.size 5 1 (.slice ao' n c) n (vb bs) ∧ Below w.heap.size w w' := by
  cases ao with
  | none =>
    obtain rfl := hq.isnil rfl
    obtain rfl : n = 0 := by have := hq.le; omega
    have hb : bs = [] := by have := hq.len; rw [vb_len] at this; exact List.eq_nil_of_length_eq_zero this
    subst hb
    exact (clone_nil w).mono fun e w' ⟨he, hb⟩ => ⟨none, 0, he, World.ownsRow_nil _ _ _ _, hb⟩
  | some a => exact (clone_some a n cap bs w hq hn).mono fun e w' ⟨g, c, he, ho, hb⟩ => ⟨_, c, he, ho, hb⟩

end Go.Proofs.Ytjiipmalahhcpaa
/- Bit operations of int at numbers that are not negative, in Nat's words. -/
namespace Go.Proofs.Ytjiipmalahhcpaa
theorem wraps_i64 (n : Int) (h₀ : 0 ≤ n) (h₁ : n < 2 ^ 63) : IntKind.i64.wrap n = n := IntWalk.i64_in _ (by omega)
theorem i64_and_nat (a b : Nat) (ha : a < 2 ^ 63) (hb : b < 2 ^ 63) : bits .and .i64 (a : Int) (b : Int) = ((a &&& b : Nat) : Int) :=
  (bits_nat .i64 63 (by decide) wraps_i64 a b ha hb).1
theorem i64_or_nat (a b : Nat) (ha : a < 2 ^ 63) (hb : b < 2 ^ 63) : bits .or .i64 (a : Int) (b : Int) = ((a ||| b : Nat) : Int) :=
  (bits_nat .i64 63 (by decide) wraps_i64 a b ha hb).2
theorem i64_xor_nat (a b : Nat) (ha : a < 2 ^ 63) (hb : b < 2 ^ 63) : bits .xor .i64 (a : Int) (b : Int) = ((a ^^^ b : Nat) : Int) := by
  have hp : (2 : Nat) ^ 63 ≤ 2 ^ 64 := by decide
  have ha' : a % 2 ^ 64 = a := Nat.mod_eq_of_lt (Nat.lt_of_lt_of_le ha hp)
  have hb' : b % 2 ^ 64 = b := Nat.mod_eq_of_lt (Nat.lt_of_lt_of_le hb hp)
  show IntKind.i64.wrap ((BitVec.ofInt 64 (a : Int) ^^^ BitVec.ofInt 64 (b : Int)).toNat : Int) = _
  rw [BitVec.toNat_xor, BitVec.ofInt_natCast, BitVec.ofInt_natCast, BitVec.toNat_ofNat, BitVec.toNat_ofNat, ha', hb']
  have hx := Nat.xor_lt_two_pow ha hb
  exact wraps_i64 _ (Int.natCast_nonneg _) (by exact_mod_cast hx)
end Go.Proofs.Ytjiipmalahhcpaa
/- packet.Encode: which bytes it gives. -/
namespace Go.Proofs.Ytjiipmalahhcpaa
set_option linter.unusedVariables false
open Go.RowKit

def firstOf (up se : Bool) (ap : Nat) : Nat := let f := if up then ap ||| 4096 else ap; if se then f ||| 2048 else f
def encB (up se : Bool) (ap pt ct : Nat) (ds : List Nat) : List Nat :=
  [firstOf up se ap / 256, firstOf up se ap % 256] ++ [(pt * 16384 ||| ct) / 256, (pt * 16384 ||| ct) % 256] ++ [(ds.length - 1) / 256, (ds.length - 1) % 256] ++ ds

set_option maxRecDepth 1000000 in
theorem firstOf_lt (up se : Bool) (ap : Nat) (h : ap ≤ 2047) : firstOf up se ap < 8192 := by
  unfold firstOf
  cases up <;> cases se <;> simp only [if_true, if_false, Bool.false_eq_true]
  · omega
  · exact Nat.or_lt_two_pow (n := 13) (by omega) (by omega)
  · exact Nat.or_lt_two_pow (n := 13) (by omega) (by omega)
  · exact Nat.or_lt_two_pow (n := 13) (Nat.or_lt_two_pow (n := 13) (by omega) (by omega)) (by omega)

set_option maxRecDepth 1000000 in
set_option maxHeartbeats 2000000 in
theorem encode_ok (up se : Bool) (ap pt ct : Nat) (a : Option Addr) (n c : Nat) (ds : List Nat) (w : World) (hd : Rd w a n c (vb ds))
    (h1 : ap ≤ 2047) (h2 : pt ≤ 3) (h3 : ct ≤ 16383) (h4 : 0 < n) (h5 : n ≤ 65536) :
    Calls Try.prog 7 #[.agg #[.bool up, .bool se, .int .i64 ap, .int .i64 pt, .int .i64 ct, .slice a n c]] w fun e w' => ∃ ao cc, e = .returned (.tuple #[.slice ao (2 + 2 + 2 + n) cc, .int .i64 0]) ∧
      w'.ownsRow w.heap.size 5 1 (.slice ao (2 + 2 + 2 + n) cc) (2 + 2 + 2 + n) (vb (encB up se ap pt ct ds)) ∧ Below w.heap.size w w' := by
  have hdl : ds.length = n := by have := hd.len; rwa [vb_len] at this
  have Hdl := hid hdl
  clear hdl
  obtain ⟨W, hW⟩ : ∃ W, W = w.alloc (.cells #[.bool up, .bool se, .int .i64 ap, .int .i64 pt, .int .i64 ct, .slice a n c] 38) := ⟨_, rfl⟩
  have B := below_alloc w (.cells #[.bool up, .bool se, .int .i64 ap, .int .i64 pt, .int .i64 ct, .slice a n c] 38)
  have A : W.heap[w.heap.size]? = some (.cells #[.bool up, .bool se, .int .i64 ap, .int .i64 pt, .int .i64 ct, .slice a n c] 38 (0, 0)) := by rw [hW]; exact heap_alloc_new w _
  rw [← hW] at B
  have hBl := (Array.getElem?_eq_some_iff.1 A).1
  have hd := hd.below B
  go_enter Try.func7, Try.ntmps7
  have c0 : W.cell? ⟨w.heap.size, 0, none⟩ = some (.bool up) := by rw [cell_of_row _ _ _ _ _ _ A]; rfl
  have c1 : W.cell? ⟨w.heap.size, 1, none⟩ = some (.bool se) := by rw [cell_of_row _ _ _ _ _ _ A]; rfl
  have c2 : W.cell? ⟨w.heap.size, 2, none⟩ = some (.int .i64 ap) := by rw [cell_of_row _ _ _ _ _ _ A]; rfl
  have c3 : W.cell? ⟨w.heap.size, 3, none⟩ = some (.int .i64 pt) := by rw [cell_of_row _ _ _ _ _ _ A]; rfl
  have c4 : W.cell? ⟨w.heap.size, 4, none⟩ = some (.int .i64 ct) := by rw [cell_of_row _ _ _ _ _ _ A]; rfl
  have c5 : W.cell? ⟨w.heap.size, 5, none⟩ = some (.slice a n c) := by rw [cell_of_row _ _ _ _ _ _ A]; rfl
  have hW' := hW.symm
  clear hW
  go_wp2_with fail
  clear hW'
  refine (may_any _ _ _ _ _ _ _ _ _).mono ?_
  rintro e W1 ⟨rfl, B1⟩
  rw [show mayCode ap pt ct n = 0 by unfold mayCode; rw [if_pos (by omega), if_neg (by omega)]]
  have hd := hd.below B1
  have c0 := (B1.cell (p := ⟨w.heap.size, 0, none⟩) hBl).trans c0
  have c1 := (B1.cell (p := ⟨w.heap.size, 1, none⟩) hBl).trans c1
  have c2 := (B1.cell (p := ⟨w.heap.size, 2, none⟩) hBl).trans c2
  have c3 := (B1.cell (p := ⟨w.heap.size, 3, none⟩) hBl).trans c3
  have c4 := (B1.cell (p := ⟨w.heap.size, 4, none⟩) hBl).trans c4
  have c5 := (B1.cell (p := ⟨w.heap.size, 5, none⟩) hBl).trans c5
  have hBl := Nat.lt_of_lt_of_le hBl B1.size
  have B1 := B.trans (B1.mono B.size)
  clear B A
  have hf := firstOf_lt up se ap h1
  have q1 : bits .or .i64 (ap : Int) 4096 = ((ap ||| 4096 : Nat) : Int) := i64_or_nat ap 4096 (by omega) (by omega)
  have q2 : bits .or .i64 (ap : Int) 2048 = ((ap ||| 2048 : Nat) : Int) := i64_or_nat ap 2048 (by omega) (by omega)
  have q3 : bits .or .i64 ((ap ||| 4096 : Nat) : Int) 2048 = ((ap ||| 4096 ||| 2048 : Nat) : Int) := i64_or_nat (ap ||| 4096) 2048 (by have := firstOf_lt true false ap h1; simp [firstOf] at this; omega) (by omega)
  have q4 : bits .or .i64 ((pt : Int) * 16384) ct = ((pt * 16384 ||| ct : Nat) : Int) := i64_or_nat (pt * 16384) ct (by omega) (by omega)
  have hs : pt * 16384 ||| ct < 65536 := Nat.or_lt_two_pow (n := 16) (by omega) (by omega)
  cases up <;> cases se <;> go_wp2_with fail
  · refine wp_region_can_all [1, 8, 13, 16, 17] [0, 2, 3, 4, 5, 6, 7, 9, 10, 11, 12, 14, 15, 1, 8, 13, 16, 17, 18, 19] Ext Ext.refl Ext.trans (by kernel_rfl) (by kernel_rfl) ?_
    have hd1 : Rd W1.drew a n c (vb ds) := hd.below ((Below.refl _ W1).drew)
    have Bd : Below w.heap.size w W1.drew := B1.drew
    have hBd : w.heap.size < W1.drew.heap.size := hBl
    have d3 : W1.drew.cell? ⟨w.heap.size, 3, none⟩ = some (.int .i64 pt) := c3
    have d4 : W1.drew.cell? ⟨w.heap.size, 4, none⟩ = some (.int .i64 ct) := c4
    have d5 : W1.drew.cell? ⟨w.heap.size, 5, none⟩ = some (.slice a n c) := c5
    generalize W1.drew = wd at *
    clear c0 c1 c2 c3 c4 c5 hd hBl B1
    have c3 := d3
    have c4 := d4
    have c5 := d5
    have hd := hd1
    have hBl := hBd
    clear d3 d4 d5 hd1 hBd
    simp only [List.map_cons, List.map_nil, List.contains_cons, List.contains_nil, List.getD_cons_zero, List.getD_cons_succ, Nat.reduceBEq, Bool.or_false, Bool.or_true]
    repeat (refine wpL_do rfl (fun w' hw' => (by have c3 := (hw'.cell (p := ⟨w.heap.size, 3, none⟩) hBl).trans c3; have c4 := (hw'.cell (p := ⟨w.heap.size, 4, none⟩) hBl).trans c4; have c5 := (hw'.cell (p := ⟨w.heap.size, 5, none⟩) hBl).trans c5; go_simp; rfl)) ?_; simp only [Act.put, List.setIfInBounds_toArray, List.set_cons_succ, List.set_cons_zero])
    clear c3 c4 c5
    refine wpL_call rfl (fun K hK => ?_)
    go_wp2_with fail
    refine (two_any _ (ap) _ rfl (by simp [firstOf] at hf; omega)).mono ?_
    rintro e V1 ⟨g1, rfl, o1, b1⟩
    refine hK _ _ b1 ?_
    clear hK K
    try simp only [Act.put, List.setIfInBounds_toArray, List.set_cons_succ, List.set_cons_zero]
    have hd := hd.below b1
    have Bd := Bd.trans (b1.mono Bd.size)
    refine wpL_call rfl (fun K hK => ?_)
    go_wp2_with fail
    refine (two_any _ (pt * 16384 ||| ct) _ q4 (by omega)).mono ?_
    rintro e V2 ⟨g2, rfl, o2, b2⟩
    refine hK _ _ b2 ?_
    clear hK K
    try simp only [Act.put, List.setIfInBounds_toArray, List.set_cons_succ, List.set_cons_zero]
    have hd := hd.below b2
    have Bd := Bd.trans (b2.mono Bd.size)
    have o1 := ownsRow_below o1 b2
    refine wpL_call rfl (fun K hK => ?_)
    go_wp2_with fail
    refine (two_any _ (ds.length - 1) _ (by have := Hdl.out; omega) (by have := Hdl.out; omega)).mono ?_
    rintro e V3 ⟨g3, rfl, o3, b3⟩
    refine hK _ _ b3 ?_
    clear hK K
    try simp only [Act.put, List.setIfInBounds_toArray, List.set_cons_succ, List.set_cons_zero]
    have hd := hd.below b3
    have Bd := Bd.trans (b3.mono Bd.size)
    have o1 := ownsRow_below o1 b3
    have o2 := ownsRow_below o2 b3
    refine wpL_call rfl (fun K hK => ?_)
    go_wp2_with fail
    refine hK _ _ (below_alloc _ _) ?_
    clear hK K
    try simp only [Act.put, List.setIfInBounds_toArray, List.set_cons_succ, List.set_cons_zero]
    have r1 := (Rd.ofOwn o1).below (below_alloc V3 (.cells #[.slice (some ⟨g1, 0, none⟩) 2 2, .slice (some ⟨g2, 0, none⟩) 2 2, .slice (some ⟨g3, 0, none⟩) 2 2, .slice a n c] 33))
    have r2 := (Rd.ofOwn o2).below (below_alloc V3 (.cells #[.slice (some ⟨g1, 0, none⟩) 2 2, .slice (some ⟨g2, 0, none⟩) 2 2, .slice (some ⟨g3, 0, none⟩) 2 2, .slice a n c] 33))
    have r3 := (Rd.ofOwn o3).below (below_alloc V3 (.cells #[.slice (some ⟨g1, 0, none⟩) 2 2, .slice (some ⟨g2, 0, none⟩) 2 2, .slice (some ⟨g3, 0, none⟩) 2 2, .slice a n c] 33))
    have rd := hd.below (below_alloc V3 (.cells #[.slice (some ⟨g1, 0, none⟩) 2 2, .slice (some ⟨g2, 0, none⟩) 2 2, .slice (some ⟨g3, 0, none⟩) 2 2, .slice a n c] 33))
    have hG : ∀ j u, [Value.slice (some ⟨g1, 0, none⟩) 2 2, .slice (some ⟨g2, 0, none⟩) 2 2, .slice (some ⟨g3, 0, none⟩) 2 2, .slice a n c][j]? = some u → (V3.alloc (.cells #[.slice (some ⟨g1, 0, none⟩) 2 2, .slice (some ⟨g2, 0, none⟩) 2 2, .slice (some ⟨g3, 0, none⟩) 2 2, .slice a n c] 33)).cell? ((⟨V3.heap.size, 0, none⟩ : Addr).add j) = some u := by
      intro j u hj
      rw [Addr.add_lit, cell_of_row _ _ _ _ _ _ (heap_alloc_new V3 _)]
      simpa using hj
    have Bd := Bd.trans ((below_alloc V3 (.cells #[.slice (some ⟨g1, 0, none⟩) 2 2, .slice (some ⟨g2, 0, none⟩) 2 2, .slice (some ⟨g3, 0, none⟩) 2 2, .slice a n c] 33)).mono Bd.size)
    have hGl : V3.heap.size < (V3.alloc (.cells #[.slice (some ⟨g1, 0, none⟩) 2 2, .slice (some ⟨g2, 0, none⟩) 2 2, .slice (some ⟨g3, 0, none⟩) 2 2, .slice a n c] 33)).heap.size := by simp
    refine wpL_call rfl (fun K hK => ?_)
    go_wp2_with fail
    refine (cat_any _ _ _ _ 2 2 2 2 2 2 n c _ _ _ _ V3.heap.size _ r1 r2 r3 rd hG hGl (by omega)).mono ?_
    rintro e V4 ⟨ao, cc, rfl, o4, b4⟩
    refine hK _ _ b4 ?_
    clear hK K
    try simp only [Act.put, List.setIfInBounds_toArray, List.set_cons_succ, List.set_cons_zero]
    have Bd0 := Bd.size
    have Bd := Bd.trans (b4.mono Bd.size)
    repeat (refine wpL_do rfl (fun w' hw' => (by go_simp; rfl)) ?_; simp only [Act.put, List.setIfInBounds_toArray, List.set_cons_succ, List.set_cons_zero])
    refine wpL_nil ?_
    go_wp2
    go_ret2
    exact ⟨ao, cc, rfl, ownsRow_mono o4 Bd0, Bd⟩
  · refine wp_region_can_all [1, 8, 13, 16, 17] [0, 2, 3, 4, 5, 6, 7, 9, 10, 11, 12, 14, 15, 1, 8, 13, 16, 17, 18, 19] Ext Ext.refl Ext.trans (by kernel_rfl) (by kernel_rfl) ?_
    have hd1 : Rd W1.drew a n c (vb ds) := hd.below ((Below.refl _ W1).drew)
    have Bd : Below w.heap.size w W1.drew := B1.drew
    have hBd : w.heap.size < W1.drew.heap.size := hBl
    have d3 : W1.drew.cell? ⟨w.heap.size, 3, none⟩ = some (.int .i64 pt) := c3
    have d4 : W1.drew.cell? ⟨w.heap.size, 4, none⟩ = some (.int .i64 ct) := c4
    have d5 : W1.drew.cell? ⟨w.heap.size, 5, none⟩ = some (.slice a n c) := c5
    generalize W1.drew = wd at *
    clear c0 c1 c2 c3 c4 c5 hd hBl B1
    have c3 := d3
    have c4 := d4
    have c5 := d5
    have hd := hd1
    have hBl := hBd
    clear d3 d4 d5 hd1 hBd
    simp only [List.map_cons, List.map_nil, List.contains_cons, List.contains_nil, List.getD_cons_zero, List.getD_cons_succ, Nat.reduceBEq, Bool.or_false, Bool.or_true]
    repeat (refine wpL_do rfl (fun w' hw' => (by have c3 := (hw'.cell (p := ⟨w.heap.size, 3, none⟩) hBl).trans c3; have c4 := (hw'.cell (p := ⟨w.heap.size, 4, none⟩) hBl).trans c4; have c5 := (hw'.cell (p := ⟨w.heap.size, 5, none⟩) hBl).trans c5; go_simp; rfl)) ?_; simp only [Act.put, List.setIfInBounds_toArray, List.set_cons_succ, List.set_cons_zero])
    clear c3 c4 c5
    refine wpL_call rfl (fun K hK => ?_)
    go_wp2_with fail
    refine (two_any _ (ap ||| 2048) _ rfl (by simp [firstOf] at hf; omega)).mono ?_
    rintro e V1 ⟨g1, rfl, o1, b1⟩
    refine hK _ _ b1 ?_
    clear hK K
    try simp only [Act.put, List.setIfInBounds_toArray, List.set_cons_succ, List.set_cons_zero]
    have hd := hd.below b1
    have Bd := Bd.trans (b1.mono Bd.size)
    refine wpL_call rfl (fun K hK => ?_)
    go_wp2_with fail
    refine (two_any _ (pt * 16384 ||| ct) _ q4 (by omega)).mono ?_
    rintro e V2 ⟨g2, rfl, o2, b2⟩
    refine hK _ _ b2 ?_
    clear hK K
    try simp only [Act.put, List.setIfInBounds_toArray, List.set_cons_succ, List.set_cons_zero]
    have hd := hd.below b2
    have Bd := Bd.trans (b2.mono Bd.size)
    have o1 := ownsRow_below o1 b2
    refine wpL_call rfl (fun K hK => ?_)
    go_wp2_with fail
    refine (two_any _ (ds.length - 1) _ (by have := Hdl.out; omega) (by have := Hdl.out; omega)).mono ?_
    rintro e V3 ⟨g3, rfl, o3, b3⟩
    refine hK _ _ b3 ?_
    clear hK K
    try simp only [Act.put, List.setIfInBounds_toArray, List.set_cons_succ, List.set_cons_zero]
    have hd := hd.below b3
    have Bd := Bd.trans (b3.mono Bd.size)
    have o1 := ownsRow_below o1 b3
    have o2 := ownsRow_below o2 b3
    refine wpL_call rfl (fun K hK => ?_)
    go_wp2_with fail
    refine hK _ _ (below_alloc _ _) ?_
    clear hK K
    try simp only [Act.put, List.setIfInBounds_toArray, List.set_cons_succ, List.set_cons_zero]
    have r1 := (Rd.ofOwn o1).below (below_alloc V3 (.cells #[.slice (some ⟨g1, 0, none⟩) 2 2, .slice (some ⟨g2, 0, none⟩) 2 2, .slice (some ⟨g3, 0, none⟩) 2 2, .slice a n c] 33))
    have r2 := (Rd.ofOwn o2).below (below_alloc V3 (.cells #[.slice (some ⟨g1, 0, none⟩) 2 2, .slice (some ⟨g2, 0, none⟩) 2 2, .slice (some ⟨g3, 0, none⟩) 2 2, .slice a n c] 33))
    have r3 := (Rd.ofOwn o3).below (below_alloc V3 (.cells #[.slice (some ⟨g1, 0, none⟩) 2 2, .slice (some ⟨g2, 0, none⟩) 2 2, .slice (some ⟨g3, 0, none⟩) 2 2, .slice a n c] 33))
    have rd := hd.below (below_alloc V3 (.cells #[.slice (some ⟨g1, 0, none⟩) 2 2, .slice (some ⟨g2, 0, none⟩) 2 2, .slice (some ⟨g3, 0, none⟩) 2 2, .slice a n c] 33))
    have hG : ∀ j u, [Value.slice (some ⟨g1, 0, none⟩) 2 2, .slice (some ⟨g2, 0, none⟩) 2 2, .slice (some ⟨g3, 0, none⟩) 2 2, .slice a n c][j]? = some u → (V3.alloc (.cells #[.slice (some ⟨g1, 0, none⟩) 2 2, .slice (some ⟨g2, 0, none⟩) 2 2, .slice (some ⟨g3, 0, none⟩) 2 2, .slice a n c] 33)).cell? ((⟨V3.heap.size, 0, none⟩ : Addr).add j) = some u := by
      intro j u hj
      rw [Addr.add_lit, cell_of_row _ _ _ _ _ _ (heap_alloc_new V3 _)]
      simpa using hj
    have Bd := Bd.trans ((below_alloc V3 (.cells #[.slice (some ⟨g1, 0, none⟩) 2 2, .slice (some ⟨g2, 0, none⟩) 2 2, .slice (some ⟨g3, 0, none⟩) 2 2, .slice a n c] 33)).mono Bd.size)
    have hGl : V3.heap.size < (V3.alloc (.cells #[.slice (some ⟨g1, 0, none⟩) 2 2, .slice (some ⟨g2, 0, none⟩) 2 2, .slice (some ⟨g3, 0, none⟩) 2 2, .slice a n c] 33)).heap.size := by simp
    refine wpL_call rfl (fun K hK => ?_)
    go_wp2_with fail
    refine (cat_any _ _ _ _ 2 2 2 2 2 2 n c _ _ _ _ V3.heap.size _ r1 r2 r3 rd hG hGl (by omega)).mono ?_
    rintro e V4 ⟨ao, cc, rfl, o4, b4⟩
    refine hK _ _ b4 ?_
    clear hK K
    try simp only [Act.put, List.setIfInBounds_toArray, List.set_cons_succ, List.set_cons_zero]
    have Bd0 := Bd.size
    have Bd := Bd.trans (b4.mono Bd.size)
    repeat (refine wpL_do rfl (fun w' hw' => (by go_simp; rfl)) ?_; simp only [Act.put, List.setIfInBounds_toArray, List.set_cons_succ, List.set_cons_zero])
    refine wpL_nil ?_
    go_wp2
    go_ret2
    exact ⟨ao, cc, rfl, ownsRow_mono o4 Bd0, Bd⟩
  · refine wp_region_can_all [1, 8, 13, 16, 17] [0, 2, 3, 4, 5, 6, 7, 9, 10, 11, 12, 14, 15, 1, 8, 13, 16, 17, 18, 19] Ext Ext.refl Ext.trans (by kernel_rfl) (by kernel_rfl) ?_
    have hd1 : Rd W1.drew a n c (vb ds) := hd.below ((Below.refl _ W1).drew)
    have Bd : Below w.heap.size w W1.drew := B1.drew
    have hBd : w.heap.size < W1.drew.heap.size := hBl
    have d3 : W1.drew.cell? ⟨w.heap.size, 3, none⟩ = some (.int .i64 pt) := c3
    have d4 : W1.drew.cell? ⟨w.heap.size, 4, none⟩ = some (.int .i64 ct) := c4
    have d5 : W1.drew.cell? ⟨w.heap.size, 5, none⟩ = some (.slice a n c) := c5
    generalize W1.drew = wd at *
    clear c0 c1 c2 c3 c4 c5 hd hBl B1
    have c3 := d3
    have c4 := d4
    have c5 := d5
    have hd := hd1
    have hBl := hBd
    clear d3 d4 d5 hd1 hBd
    simp only [List.map_cons, List.map_nil, List.contains_cons, List.contains_nil, List.getD_cons_zero, List.getD_cons_succ, Nat.reduceBEq, Bool.or_false, Bool.or_true]
    repeat (refine wpL_do rfl (fun w' hw' => (by have c3 := (hw'.cell (p := ⟨w.heap.size, 3, none⟩) hBl).trans c3; have c4 := (hw'.cell (p := ⟨w.heap.size, 4, none⟩) hBl).trans c4; have c5 := (hw'.cell (p := ⟨w.heap.size, 5, none⟩) hBl).trans c5; go_simp; rfl)) ?_; simp only [Act.put, List.setIfInBounds_toArray, List.set_cons_succ, List.set_cons_zero])
    clear c3 c4 c5
    refine wpL_call rfl (fun K hK => ?_)
    go_wp2_with fail
    refine (two_any _ (ap ||| 4096) _ rfl (by simp [firstOf] at hf; omega)).mono ?_
    rintro e V1 ⟨g1, rfl, o1, b1⟩
    refine hK _ _ b1 ?_
    clear hK K
    try simp only [Act.put, List.setIfInBounds_toArray, List.set_cons_succ, List.set_cons_zero]
    have hd := hd.below b1
    have Bd := Bd.trans (b1.mono Bd.size)
    refine wpL_call rfl (fun K hK => ?_)
    go_wp2_with fail
    refine (two_any _ (pt * 16384 ||| ct) _ q4 (by omega)).mono ?_
    rintro e V2 ⟨g2, rfl, o2, b2⟩
    refine hK _ _ b2 ?_
    clear hK K
    try simp only [Act.put, List.setIfInBounds_toArray, List.set_cons_succ, List.set_cons_zero]
    have hd := hd.below b2
    have Bd := Bd.trans (b2.mono Bd.size)
    have o1 := ownsRow_below o1 b2
    refine wpL_call rfl (fun K hK => ?_)
    go_wp2_with fail
    refine (two_any _ (ds.length - 1) _ (by have := Hdl.out; omega) (by have := Hdl.out; omega)).mono ?_
    rintro e V3 ⟨g3, rfl, o3, b3⟩
    refine hK _ _ b3 ?_
    clear hK K
    try simp only [Act.put, List.setIfInBounds_toArray, List.set_cons_succ, List.set_cons_zero]
    have hd := hd.below b3
    have Bd := Bd.trans (b3.mono Bd.size)
    have o1 := ownsRow_below o1 b3
    have o2 := ownsRow_below o2 b3
    refine wpL_call rfl (fun K hK => ?_)
    go_wp2_with fail
    refine hK _ _ (below_alloc _ _) ?_
    clear hK K
    try simp only [Act.put, List.setIfInBounds_toArray, List.set_cons_succ, List.set_cons_zero]
    have r1 := (Rd.ofOwn o1).below (below_alloc V3 (.cells #[.slice (some ⟨g1, 0, none⟩) 2 2, .slice (some ⟨g2, 0, none⟩) 2 2, .slice (some ⟨g3, 0, none⟩) 2 2, .slice a n c] 33))
    have r2 := (Rd.ofOwn o2).below (below_alloc V3 (.cells #[.slice (some ⟨g1, 0, none⟩) 2 2, .slice (some ⟨g2, 0, none⟩) 2 2, .slice (some ⟨g3, 0, none⟩) 2 2, .slice a n c] 33))
    have r3 := (Rd.ofOwn o3).below (below_alloc V3 (.cells #[.slice (some ⟨g1, 0, none⟩) 2 2, .slice (some ⟨g2, 0, none⟩) 2 2, .slice (some ⟨g3, 0, none⟩) 2 2, .slice a n c] 33))
    have rd := hd.below (below_alloc V3 (.cells #[.slice (some ⟨g1, 0, none⟩) 2 2, .slice (some ⟨g2, 0, none⟩) 2 2, .slice (some ⟨g3, 0, none⟩) 2 2, .slice a n c] 33))
    have hG : ∀ j u, [Value.slice (some ⟨g1, 0, none⟩) 2 2, .slice (some ⟨g2, 0, none⟩) 2 2, .slice (some ⟨g3, 0, none⟩) 2 2, .slice a n c][j]? = some u → (V3.alloc (.cells #[.slice (some ⟨g1, 0, none⟩) 2 2, .slice (some ⟨g2, 0, none⟩) 2 2, .slice (some ⟨g3, 0, none⟩) 2 2, .slice a n c] 33)).cell? ((⟨V3.heap.size, 0, none⟩ : Addr).add j) = some u := by
      intro j u hj
      rw [Addr.add_lit, cell_of_row _ _ _ _ _ _ (heap_alloc_new V3 _)]
      simpa using hj
    have Bd := Bd.trans ((below_alloc V3 (.cells #[.slice (some ⟨g1, 0, none⟩) 2 2, .slice (some ⟨g2, 0, none⟩) 2 2, .slice (some ⟨g3, 0, none⟩) 2 2, .slice a n c] 33)).mono Bd.size)
    have hGl : V3.heap.size < (V3.alloc (.cells #[.slice (some ⟨g1, 0, none⟩) 2 2, .slice (some ⟨g2, 0, none⟩) 2 2, .slice (some ⟨g3, 0, none⟩) 2 2, .slice a n c] 33)).heap.size := by simp
    refine wpL_call rfl (fun K hK => ?_)
    go_wp2_with fail
    refine (cat_any _ _ _ _ 2 2 2 2 2 2 n c _ _ _ _ V3.heap.size _ r1 r2 r3 rd hG hGl (by omega)).mono ?_
    rintro e V4 ⟨ao, cc, rfl, o4, b4⟩
    refine hK _ _ b4 ?_
    clear hK K
    try simp only [Act.put, List.setIfInBounds_toArray, List.set_cons_succ, List.set_cons_zero]
    have Bd0 := Bd.size
    have Bd := Bd.trans (b4.mono Bd.size)
    repeat (refine wpL_do rfl (fun w' hw' => (by go_simp; rfl)) ?_; simp only [Act.put, List.setIfInBounds_toArray, List.set_cons_succ, List.set_cons_zero])
    refine wpL_nil ?_
    go_wp2
    go_ret2
    exact ⟨ao, cc, rfl, ownsRow_mono o4 Bd0, Bd⟩
  · refine wp_region_can_all [1, 8, 13, 16, 17] [0, 2, 3, 4, 5, 6, 7, 9, 10, 11, 12, 14, 15, 1, 8, 13, 16, 17, 18, 19] Ext Ext.refl Ext.trans (by kernel_rfl) (by kernel_rfl) ?_
    have hd1 : Rd W1.drew a n c (vb ds) := hd.below ((Below.refl _ W1).drew)
    have Bd : Below w.heap.size w W1.drew := B1.drew
    have hBd : w.heap.size < W1.drew.heap.size := hBl
    have d3 : W1.drew.cell? ⟨w.heap.size, 3, none⟩ = some (.int .i64 pt) := c3
    have d4 : W1.drew.cell? ⟨w.heap.size, 4, none⟩ = some (.int .i64 ct) := c4
    have d5 : W1.drew.cell? ⟨w.heap.size, 5, none⟩ = some (.slice a n c) := c5
    generalize W1.drew = wd at *
    clear c0 c1 c2 c3 c4 c5 hd hBl B1
    have c3 := d3
    have c4 := d4
    have c5 := d5
    have hd := hd1
    have hBl := hBd
    clear d3 d4 d5 hd1 hBd
    simp only [List.map_cons, List.map_nil, List.contains_cons, List.contains_nil, List.getD_cons_zero, List.getD_cons_succ, Nat.reduceBEq, Bool.or_false, Bool.or_true]
    repeat (refine wpL_do rfl (fun w' hw' => (by have c3 := (hw'.cell (p := ⟨w.heap.size, 3, none⟩) hBl).trans c3; have c4 := (hw'.cell (p := ⟨w.heap.size, 4, none⟩) hBl).trans c4; have c5 := (hw'.cell (p := ⟨w.heap.size, 5, none⟩) hBl).trans c5; go_simp; rfl)) ?_; simp only [Act.put, List.setIfInBounds_toArray, List.set_cons_succ, List.set_cons_zero])
    clear c3 c4 c5
    refine wpL_call rfl (fun K hK => ?_)
    go_wp2_with fail
    refine (two_any _ (ap ||| 4096 ||| 2048) _ rfl (by simp [firstOf] at hf; omega)).mono ?_
    rintro e V1 ⟨g1, rfl, o1, b1⟩
    refine hK _ _ b1 ?_
    clear hK K
    try simp only [Act.put, List.setIfInBounds_toArray, List.set_cons_succ, List.set_cons_zero]
    have hd := hd.below b1
    have Bd := Bd.trans (b1.mono Bd.size)
    refine wpL_call rfl (fun K hK => ?_)
    go_wp2_with fail
    refine (two_any _ (pt * 16384 ||| ct) _ q4 (by omega)).mono ?_
    rintro e V2 ⟨g2, rfl, o2, b2⟩
    refine hK _ _ b2 ?_
    clear hK K
    try simp only [Act.put, List.setIfInBounds_toArray, List.set_cons_succ, List.set_cons_zero]
    have hd := hd.below b2
    have Bd := Bd.trans (b2.mono Bd.size)
    have o1 := ownsRow_below o1 b2
    refine wpL_call rfl (fun K hK => ?_)
    go_wp2_with fail
    refine (two_any _ (ds.length - 1) _ (by have := Hdl.out; omega) (by have := Hdl.out; omega)).mono ?_
    rintro e V3 ⟨g3, rfl, o3, b3⟩
    refine hK _ _ b3 ?_
    clear hK K
    try simp only [Act.put, List.setIfInBounds_toArray, List.set_cons_succ, List.set_cons_zero]
    have hd := hd.below b3
    have Bd := Bd.trans (b3.mono Bd.size)
    have o1 := ownsRow_below o1 b3
    have o2 := ownsRow_below o2 b3
    refine wpL_call rfl (fun K hK => ?_)
    go_wp2_with fail
    refine hK _ _ (below_alloc _ _) ?_
    clear hK K
    try simp only [Act.put, List.setIfInBounds_toArray, List.set_cons_succ, List.set_cons_zero]
    have r1 := (Rd.ofOwn o1).below (below_alloc V3 (.cells #[.slice (some ⟨g1, 0, none⟩) 2 2, .slice (some ⟨g2, 0, none⟩) 2 2, .slice (some ⟨g3, 0, none⟩) 2 2, .slice a n c] 33))
    have r2 := (Rd.ofOwn o2).below (below_alloc V3 (.cells #[.slice (some ⟨g1, 0, none⟩) 2 2, .slice (some ⟨g2, 0, none⟩) 2 2, .slice (some ⟨g3, 0, none⟩) 2 2, .slice a n c] 33))
    have r3 := (Rd.ofOwn o3).below (below_alloc V3 (.cells #[.slice (some ⟨g1, 0, none⟩) 2 2, .slice (some ⟨g2, 0, none⟩) 2 2, .slice (some ⟨g3, 0, none⟩) 2 2, .slice a n c] 33))
    have rd := hd.below (below_alloc V3 (.cells #[.slice (some ⟨g1, 0, none⟩) 2 2, .slice (some ⟨g2, 0, none⟩) 2 2, .slice (some ⟨g3, 0, none⟩) 2 2, .slice a n c] 33))
    have hG : ∀ j u, [Value.slice (some ⟨g1, 0, none⟩) 2 2, .slice (some ⟨g2, 0, none⟩) 2 2, .slice (some ⟨g3, 0, none⟩) 2 2, .slice a n c][j]? = some u → (V3.alloc (.cells #[.slice (some ⟨g1, 0, none⟩) 2 2, .slice (some ⟨g2, 0, none⟩) 2 2, .slice (some ⟨g3, 0, none⟩) 2 2, .slice a n c] 33)).cell? ((⟨V3.heap.size, 0, none⟩ : Addr).add j) = some u := by
      intro j u hj
      rw [Addr.add_lit, cell_of_row _ _ _ _ _ _ (heap_alloc_new V3 _)]
      simpa using hj
    have Bd := Bd.trans ((below_alloc V3 (.cells #[.slice (some ⟨g1, 0, none⟩) 2 2, .slice (some ⟨g2, 0, none⟩) 2 2, .slice (some ⟨g3, 0, none⟩) 2 2, .slice a n c] 33)).mono Bd.size)
    have hGl : V3.heap.size < (V3.alloc (.cells #[.slice (some ⟨g1, 0, none⟩) 2 2, .slice (some ⟨g2, 0, none⟩) 2 2, .slice (some ⟨g3, 0, none⟩) 2 2, .slice a n c] 33)).heap.size := by simp
    refine wpL_call rfl (fun K hK => ?_)
    go_wp2_with fail
    refine (cat_any _ _ _ _ 2 2 2 2 2 2 n c _ _ _ _ V3.heap.size _ r1 r2 r3 rd hG hGl (by omega)).mono ?_
    rintro e V4 ⟨ao, cc, rfl, o4, b4⟩
    refine hK _ _ b4 ?_
    clear hK K
    try simp only [Act.put, List.setIfInBounds_toArray, List.set_cons_succ, List.set_cons_zero]
    have Bd0 := Bd.size
    have Bd := Bd.trans (b4.mono Bd.size)
    repeat (refine wpL_do rfl (fun w' hw' => (by go_simp; rfl)) ?_; simp only [Act.put, List.setIfInBounds_toArray, List.set_cons_succ, List.set_cons_zero])
    refine wpL_nil ?_
    go_wp2
    go_ret2
    exact ⟨ao, cc, rfl, ownsRow_mono o4 Bd0, Bd⟩

set_option maxRecDepth 1000000 in
theorem encode_bad (up se : Bool) (ap pt ct : Int) (a : Option Addr) (n c : Nat) (w : World) (h : mayCode ap pt ct n ≠ 0) :
    Calls Try.prog 7 #[.agg #[.bool up, .bool se, .int .i64 ap, .int .i64 pt, .int .i64 ct, .slice a n c]] w fun e w' => e = .returned (.tuple #[.slice none 0 0, .int .i64 (mayCode ap pt ct n)]) ∧ Below w.heap.size w w' := by
  obtain ⟨m, hm⟩ : ∃ m, m = mayCode ap pt ct n := ⟨_, rfl⟩
  rw [← hm] at h ⊢
  obtain ⟨W, hW⟩ : ∃ W, W = w.alloc (.cells #[.bool up, .bool se, .int .i64 ap, .int .i64 pt, .int .i64 ct, .slice a n c] 38) := ⟨_, rfl⟩
  have B := below_alloc w (.cells #[.bool up, .bool se, .int .i64 ap, .int .i64 pt, .int .i64 ct, .slice a n c] 38)
  have A : W.heap[w.heap.size]? = some (.cells #[.bool up, .bool se, .int .i64 ap, .int .i64 pt, .int .i64 ct, .slice a n c] 38 (0, 0)) := by rw [hW]; exact heap_alloc_new w _
  rw [← hW] at B
  go_enter Try.func7, Try.ntmps7
  have c0 : W.cell? ⟨w.heap.size, 0, none⟩ = some (.bool up) := by rw [cell_of_row _ _ _ _ _ _ A]; rfl
  have c1 : W.cell? ⟨w.heap.size, 1, none⟩ = some (.bool se) := by rw [cell_of_row _ _ _ _ _ _ A]; rfl
  have c2 : W.cell? ⟨w.heap.size, 2, none⟩ = some (.int .i64 ap) := by rw [cell_of_row _ _ _ _ _ _ A]; rfl
  have c3 : W.cell? ⟨w.heap.size, 3, none⟩ = some (.int .i64 pt) := by rw [cell_of_row _ _ _ _ _ _ A]; rfl
  have c4 : W.cell? ⟨w.heap.size, 4, none⟩ = some (.int .i64 ct) := by rw [cell_of_row _ _ _ _ _ _ A]; rfl
  have c5 : W.cell? ⟨w.heap.size, 5, none⟩ = some (.slice a n c) := by rw [cell_of_row _ _ _ _ _ _ A]; rfl
  have hW' := hW.symm
  clear hW
  go_wp2_with fail
  clear hW'
  refine (may_any _ _ _ _ _ _ _ _ _).mono ?_
  rintro e W1 ⟨rfl, B1⟩
  have hne : (m != 0) = true := by simpa using h
  rw [← hm]
  have B1 := B.trans (B1.mono B.size)
  clear hm
  go_wp2_with fail
  go_ret2
  exact ⟨rfl, B1⟩
end Go.Proofs.Ytjiipmalahhcpaa
