/- deliver: some of the notes on their way come (walk 14). -/
import Derived.Test.YtopmamgdfngdoaaWhole23
import Derived.Test.YtopmamgdfngdoaaWhole20
import Derived.Test.YtopmamgdfngdoaaWhole19
import Derived.Test.YtopmamgdfngdoaaWhole14
import Derived.Test.YtopmamgdfngdoaaWhole12
namespace Go.Proofs.Ytopmamgdfngdoaa
set_option linter.unusedVariables false
open Go.RowKit

set_option maxRecDepth 1000000 in
theorem fr71 (y : Nat → Value) : fr 71 y = #[y 0, y 1, y 2, y 3, y 4, y 5, y 6, y 7, y 8, y 9, y 10, y 11, y 12, y 13, y 14, y 15, y 16, y 17, y 18, y 19, y 20, y 21, y 22, y 23, y 24, y 25, y 26, y 27, y 28, y 29, y 30, y 31, y 32, y 33, y 34, y 35, y 36, y 37, y 38, y 39, y 40, y 41, y 42, y 43, y 44, y 45, y 46, y 47, y 48, y 49, y 50, y 51, y 52, y 53, y 54, y 55, y 56, y 57, y 58, y 59, y 60, y 61, y 62, y 63, y 64, y 65, y 66, y 67, y 68, y 69, y 70] := rfl
set_option maxRecDepth 100000 in
theorem run_cut37h (b off n c h : Nat) (h2 : h ≤ c) (w : World) : (Instr.sliceAt 37 (.slice (some ⟨b, off, none⟩) n c) none (some (.int .i64 (h : Int))) none).run Try.prog w = .ok (.slice (some ⟨b, off, none⟩) h c) w := by
  have e2 : (h : Int) ≤ c := by omega
  simp [go_sem, e2, Try.underlying37]
set_option maxRecDepth 100000 in
theorem run_cut37l (b off n c l : Nat) (h1 : l ≤ n) (w : World) : (Instr.sliceAt 37 (.slice (some ⟨b, off, none⟩) n c) (some (.int .i64 (l : Int))) none none).run Try.prog w = .ok (.slice (some ⟨b, if c = l then off else off + l, none⟩) (n - l) (c - l)) w := by
  have e1 : (l : Int) ≤ n := by omega
  simp [go_sem, e1, Try.underlying37]
  split <;> rfl
/-- how a raw number picks -/
def pkF (q : Int) (i len : Nat) : Nat := pk (wrap64 (q * ((i : Int) + 1))) len
theorem wrap64_rng (x : Int) : -9223372036854775808 ≤ wrap64 x ∧ wrap64 x ≤ 9223372036854775807 := by
  unfold wrap64
  omega
def btF (q : Int) (i : Nat) : Bool := !(bits .and .i64 (q / (2 : Int) ^ (i % 60)) 1 == 0)
theorem Way.stays {D : DP} {W W' : World} {B : Nat} {wa : Option Addr} {wc : Nat} {bs : List BV} (h : Way D W B wa wc bs) (h22 : Stays 22 W W') (h5 : Stays 5 W W') : Way D W' B wa wc bs := ⟨own_stays h.own h22, fun b hm => RdT.stays (h.rd b hm) h5, h.vd⟩
theorem bvv_one (D : DP) (bs : List BV) : ∀ u ∈ bs.map (bvv D), u.oneCell' = true := by
  intro u hu
  obtain ⟨b, _, rfl⟩ := List.mem_map.1 hu
  rfl
theorem map_erase {α β : Type} (f : α → β) (l : List α) (k : Nat) : (l.take k ++ l.drop (k + 1)).map f = (l.map f).eraseIdx k := by
  rw [List.eraseIdx_eq_take_drop_succ, List.map_append, List.map_take, List.map_drop]
structure CopP (D : DP) (w w' : World) (B : Nat) (ob : Option Nat) (i k : Nat) (cp : Int) (bs : List BV) (v : Value) : Prop where
  ex : ∃ wa wc bs', v = .slice wa (bs' : List BV).length wc ∧ Way D w' B wa wc bs' ∧ bs'.map (·.k) = (if btF cp i = true then bs.map (·.k) else (bs.map (·.k)).eraseIdx k) ∧ bs'.length ≤ bs.length ∧ (obk wa bs'.length wc = ob ∨ ∀ g, obk wa bs'.length wc = some g → w.heap.size ≤ g)
  blw : Below w.heap.size w w'
set_option maxRecDepth 1000000 in
set_option maxHeartbeats 8000000 in
theorem com_copy (D : DP) (B T g wc bn i k : Nat) (d u q lo cp : Int) (bs : List BV) (hbn : bn = bs.length) (hk : k < bn) (hb1 : bn ≤ 100000) (hi1 : i ≤ 1000) :
    Tri Try.prog 71 (pieceOf Try.f14 [1, 1, 0, 1, 0, 0, 1, 0, 0, 1, 1, 1, 0]) (fun z w => z 0 = .slice (some ⟨g, 0, none⟩) bn wc ∧ z 5 = .pointer (some ⟨T, 0, none⟩) ∧ z 10 = .int .i64 (i : Int) ∧ z 11 = .int .i64 (k : Int) ∧ Way D w B (some ⟨g, 0, none⟩) wc bs ∧ w.heap[T]? = some (.cells #[.int .i64 d, .int .i64 u, .int .i64 q, .int .i64 lo, .int .i64 cp] 41) ∧ B ≤ w.heap.size)
      (fun z w z' w' => z' 1 = z 1 ∧ z' 5 = z 5 ∧ z' 9 = z 9 ∧ z' 10 = z 10 ∧ z' 12 = z 12 ∧ CopP D w w' B (obk (some ⟨g, 0, none⟩) bn wc) i k cp bs (z' 0)) := by
  obtain ⟨i22, hi, hz0, hz1, hz2⟩ := info_parts Try.info22
  rintro Q z w ⟨s0, s5, s10, s11, hW, hT, hBw⟩ hQ
  have HQ := hid hQ
  have t4 : w.cell? ⟨T, 4, none⟩ = some (.int .i64 cp) := by rw [cell_of_row _ _ _ _ _ _ hT]; rfl
  obtain ⟨r, hr⟩ : ∃ r, r = i % 60 := ⟨_, rfl⟩
  have hr60 : r < 60 := by omega
  have a2 : (i : Int).tmod 60 = (r : Int) := by rw [hr]; rfl
  obtain ⟨xc, hxc⟩ : ∃ xc, xc = bits .and .i64 (cp / (2 : Int) ^ r) 1 := ⟨_, rfl⟩
  have exc : bits .and .i64 (cp / (2 : Int) ^ r) 1 = xc := hxc.symm
  have hbt : Hid (btF cp i = !(xc == 0)) := hid (by unfold btF; rw [← hr, exc])
  have HW := hid hW
  have Hbn := hid hbn
  have S5 := hid s5
  have S10 := hid s10
  clear hQ hW hT hr hxc hbn
  conv => arg 2; whnf
  rw [fr71]
  simp only [s0, s5, s10, s11]
  clear s0 s5 s10 s11
  refine wp_seq_k (fun K0 hK0 => ?_)
  by_cases hx : xc = 0
  · subst hx
    go_wp2_with fail
    refine hK0.out _ _ ?_
    refine wp_cond_true rfl ?_
    clear t4 a2 exc
    have hdr := (Below.refl w.heap.size w).drew
    have HW2 := hid (HW.out.below hdr)
    have hBU : B ≤ w.drew.heap.size := hBw
    have Hdr := hid hdr
    clear hdr HW
    have how := HW2.out.own
    rw [← Hbn.out] at how
    have hrd := Rd.ofOwn how
    have hwc := hrd.le
    have hmx := hrd.max
    have hlen := hrd.len
    have cutA := run_cut37h g 0 bn wc k (by omega)
    have cutB := run_cut37l g 0 bn wc (k + 1) (by omega)
    have ak : IntKind.i64.wrap ((k : Int) + 1) = ((k + 1 : Nat) : Int) := by rw [IntWalk.i64_in _ (by omega)]; rfl
    obtain ⟨k1, hk1⟩ : ∃ k1, k1 = k + 1 := ⟨_, rfl⟩
    rw [← hk1] at cutB ak
    obtain ⟨of2, hof⟩ : ∃ of2, of2 = if wc = k1 then 0 else 0 + k1 := ⟨_, rfl⟩
    rw [← hof] at cutB
    have Hk1 := hid hk1
    have Hof := hid hof
    have hk1b : k1 ≤ bn := by omega
    clear hk1 hof
    refine wp_region_can_all [3, 8] [0, 1, 2, 4, 5, 6, 7, 3, 8, 9] (fun _ _ => True) (fun _ => trivial) (fun _ _ _ _ _ => trivial) (by kernel_rfl) (by kernel_rfl) ?_
    simp only [List.map_cons, List.map_nil, List.contains_cons, List.contains_nil, List.getD_cons_zero, List.getD_cons_succ, Nat.reduceBEq, Bool.or_false, Bool.or_true]
    generalize w.drew = U at *
    iterate 7 (refine wpL_do rfl (fun w' hw' => (by go_simp; rfl)) ?_; simp only [Act.put, List.setIfInBounds_toArray, List.set_cons_succ, List.set_cons_zero])
    have hA : Rd U (some ⟨g, 0, none⟩) k wc ((bs.map (bvv D)).take k) := by
      refine ⟨by rw [List.length_take, hlen]; omega, by omega, hmx, (fun e => by cases e), fun h0 => ?_⟩
      obtain ⟨b', off', ha, hlt, hc⟩ := hrd.mem (by omega)
      cases ha
      exact ⟨g, 0, rfl, hlt, fun j hj => by rw [hc j (by omega), List.getElem?_take, if_pos hj]⟩
    have hBB : Rd U (some ⟨g, of2, none⟩) (bn - k1) (wc - k1) ((bs.map (bvv D)).drop k1) := by
      refine ⟨by rw [List.length_drop, hlen], by omega, by omega, (fun e => by cases e), fun h0 => ?_⟩
      obtain ⟨b', off', ha, hlt, hc⟩ := hrd.mem (by omega)
      cases ha
      have e : of2 = k1 := by rw [Hof.out, if_neg (by omega), Nat.zero_add]
      subst e
      exact ⟨g, of2, rfl, hlt, fun j hj => by
        have := hc (of2 + j) (by omega)
        rw [Nat.zero_add] at this
        rw [this, List.getElem?_drop]⟩
    have HA := hid hA
    have HBB := hid hBB
    clear hA hBB cutA cutB ak hrd hlen
    refine wpL_call rfl (fun K hK => ?_)
    refine wp_append_rd (.const (.slice none 0 0)) (.tmp 51) 37 rfl U.heap.size 22 i22 _ 24 Try.underlying37 hi hz0 hz1 hz2 rfl none 0 0 [] rfl (World.ownsRow_nil _ _ _ _) (some ⟨g, 0, none⟩) k wc ((bs.map (bvv D)).take k) rfl HA.out (fun v hv => bvv_one D bs v (List.mem_of_mem_take hv)) (by omega) (by unfold maxLen; omega) (Nat.le_refl _) ?_
    intro na nc U1 own1 g1 b1
    refine hK _ _ trivial ?_
    clear hK K
    try simp only [Act.put, List.setIfInBounds_toArray, List.set_cons_succ, List.set_cons_zero]
    have hB1 := HBB.out.below b1
    refine wpL_call rfl (fun K hK => ?_)
    refine wp_append_rd (.tmp 52) (.tmp 56) 37 rfl U.heap.size 22 i22 _ 24 Try.underlying37 hi hz0 hz1 hz2 rfl na (0 + k) nc ([] ++ (bs.map (bvv D)).take k) rfl own1 (some ⟨g, of2, none⟩) (bn - k1) (wc - k1) ((bs.map (bvv D)).drop k1) rfl hB1 (fun v hv => bvv_one D bs v (List.mem_of_mem_drop hv)) (by omega) (by unfold maxLen; omega) b1.size ?_
    intro ma mc U2 own2 g2 b2
    refine hK _ _ trivial ?_
    clear hK K
    try simp only [Act.put, List.setIfInBounds_toArray, List.set_cons_succ, List.set_cons_zero]
    have hll : 0 + k + (bn - k1) = (bs.take k ++ bs.drop (k + 1)).length := by
      rw [List.length_append, List.length_take, List.length_drop, ← Hbn.out, Hk1.out]
      omega
    have hmm : ([] ++ (bs.map (bvv D)).take k) ++ (bs.map (bvv D)).drop k1 = (bs.take k ++ bs.drop (k + 1)).map (bvv D) := by
      rw [List.nil_append, List.map_append, List.map_take, List.map_drop, Hk1.out]
    rw [hmm] at own2
    have b12 := b1.trans b2
    have hwy : Way D U2 B ma mc (bs.take k ++ bs.drop (k + 1)) := by
      refine ⟨?_, fun b hb => ?_, fun b hb => ?_⟩
      · rw [← hll]
        exact ownsRow_mono own2 hBU
      · exact RdT.below (HW2.out.rd b ((List.mem_append.1 hb).elim List.mem_of_mem_take List.mem_of_mem_drop)) b12
      · exact HW2.out.vd b ((List.mem_append.1 hb).elim List.mem_of_mem_take List.mem_of_mem_drop)
    have hsz : w.heap.size ≤ U.heap.size := Hdr.out.size
    have hobk : obk ma (bs.take k ++ bs.drop (k + 1)).length mc = obk (some ⟨g, 0, none⟩) bn wc ∨ ∀ g', obk ma (bs.take k ++ bs.drop (k + 1)).length mc = some g' → w.heap.size ≤ g' := by
      rw [← hll]
      exact .inr fun g' h => Nat.le_trans hsz (own2.lt g' h).1
    have hle : (bs.take k ++ bs.drop (k + 1)).length ≤ bs.length := by
      rw [← hll, ← Hbn.out]
      have := Hk1.out
      omega
    have HCop : Hid (CopP D w U2 B (obk (some ⟨g, 0, none⟩) bn wc) i k cp bs (.slice ma (k + (bn - k1)) mc)) := hid ⟨⟨ma, mc, bs.take k ++ bs.drop (k + 1), by rw [← hll, Nat.zero_add], hwy, by rw [hbt.out, if_neg (by decide)]; exact map_erase _ _ _, hle, hobk⟩, Hdr.out.trans (b12.mono hsz)⟩
    clear own1 own2 g1 g2 b1 b2 b12 hwy hobk hll hle hmm HA HBB HW2 hB1
    refine wpL_do rfl (fun w' hw' => (by go_simp; rfl)) ?_
    simp only [Act.put, List.setIfInBounds_toArray, List.set_cons_zero]
    refine wpL_nil ?_
    exact q_fr (N := 71) HQ.out rfl ⟨rfl, S5.out.symm, rfl, S10.out.symm, rfl, HCop.out⟩
  · have dx : (xc == 0) = false := beq_eq_false_iff_ne.2 hx
    go_wp2_with fail
    refine hK0.out _ _ ?_
    refine wp_cond_false rfl ?_
    clear t4 a2 exc
    go_wp2_with fail
    refine q_fr (N := 71) HQ.out rfl ⟨rfl, S5.out.symm, rfl, S10.out.symm, rfl, ⟨⟨some ⟨g, 0, none⟩, wc, bs, by rw [← Hbn.out]; rfl, HW.out, ?_, Nat.le_refl _, .inl (by rw [Hbn.out])⟩, Below.refl _ _⟩⟩
    rw [hbt.out, dx]
    rfl
end Go.Proofs.Ytopmamgdfngdoaa
/- deliver: one of the notes on their way comes, or is lost (walk 14). -/
namespace Go.Proofs.Ytopmamgdfngdoaa
set_option linter.unusedVariables false
open Go.RowKit

structure TakP (D : DP) (w w' : World) (B2 : Nat) (i : Nat) (lo : Int) (vs : List NV) (v : NV) (r : Value) : Prop where
  ex : ∃ la lc vs', r = .slice la (vs' : List NV).length lc ∧ NRow D w' B2 la lc vs' ∧ vs' = vs ++ (if btF lo i then [] else [v])
  blw : Below B2 w w'
  st : ∀ t, t ≠ 60 → Stays t w w'
theorem Try.info60b : (Try.prog.info? 60).map (fun i => (i.zero, i.size, i.bytes)) = some (some (.agg #[.int .i64 0, .int .i64 0, .string { data := #[] }, .int .i64 0, .int .i64 0, .int .i64 0, .slice none 0 0, .slice none 0 0, .int .i64 0, .int .i64 0]), 10, 120) := Try.info60
set_option maxRecDepth 1000000 in
set_option maxHeartbeats 8000000 in
theorem com_take (D : DP) (B2 T Y vn lc i : Nat) (la : Option Addr) (d u q lo cp : Int) (vs : List NV) (v : NV) (hvn : vn = vs.length) (hv1 : vn ≤ 100000) (hi1 : i ≤ 1000) :
    Tri Try.prog 71 (pieceOf Try.f14 [1, 1, 0, 1, 0, 0, 1, 0, 0, 1, 1, 1, 1]) (fun z w => z 9 = .slice la vn lc ∧ z 5 = .pointer (some ⟨T, 0, none⟩) ∧ z 10 = .int .i64 (i : Int) ∧ z 12 = .pointer (some ⟨Y, 0, none⟩) ∧ NRow D w B2 la lc vs ∧ NVM D w v ∧ w.heap[T]? = some (.cells #[.int .i64 d, .int .i64 u, .int .i64 q, .int .i64 lo, .int .i64 cp] 41) ∧ w.heap[Y]? = some (.cells (ncl D v).toArray 60) ∧ B2 ≤ w.heap.size)
      (fun z w z' w' => z' 0 = z 0 ∧ z' 1 = z 1 ∧ z' 5 = z 5 ∧ z' 10 = z 10 ∧ TakP D w w' B2 i lo vs v (z' 9)) := by
  obtain ⟨i60, hi, hz0, hz1, hz2⟩ := info_parts Try.info60
  rintro Q z w ⟨s9, s5, s10, s12, hW, hM, hT, hY, hBw⟩ hQ
  have HQ := hid hQ
  have t3 : w.cell? ⟨T, 3, none⟩ = some (.int .i64 lo) := by rw [cell_of_row _ _ _ _ _ _ hT]; rfl
  obtain ⟨r, hr⟩ : ∃ r, r = i % 60 := ⟨_, rfl⟩
  have hr60 : r < 60 := by omega
  have a2 : (i : Int).tmod 60 = (r : Int) := by rw [hr]; rfl
  obtain ⟨xc, hxc⟩ : ∃ xc, xc = bits .and .i64 (lo / (2 : Int) ^ r) 1 := ⟨_, rfl⟩
  have exc : bits .and .i64 (lo / (2 : Int) ^ r) 1 = xc := hxc.symm
  have hbt : Hid (btF lo i = !(xc == 0)) := hid (by unfold btF; rw [← hr, exc])
  have HW := hid hW
  have HM := hid hM
  have Hvn := hid hvn
  have S5 := hid s5
  have S10 := hid s10
  obtain ⟨da, dn, dc, hda⟩ := ndata_slice v
  obtain ⟨ga, gn, gc, hga⟩ := ngaps_slice v
  have E1 : Hid ((vs ++ [v]).flatMap (ncl D) = vs.flatMap (ncl D) ++ [.int .i64 (nkind v.k), .int .i64 7, .string (nname v.k), .int .i64 (nsize D v.k), .int .i64 (nsum D v.k), .int .i64 (nat_ v.k), .slice da dn dc, .slice ga gn gc, .int .i64 (nof v.k), .int .i64 0]) := by
    show (vs ++ [v]).flatMap (ncl D) = _
    rw [flat_snoc]
    unfold ncl ncI
    rw [hda, hga]
  have hY2 : w.heap[Y]? = some (.cells #[.int .i64 (nkind v.k), .int .i64 7, .string (nname v.k), .int .i64 (nsize D v.k), .int .i64 (nsum D v.k), .int .i64 (nat_ v.k), .slice da dn dc, .slice ga gn gc, .int .i64 (nof v.k), .int .i64 0] 60) := by
    rw [hY]
    unfold ncl ncI
    rw [hda, hga]
  have hol : (vs.flatMap (ncl D)).length = vs.length * 10 := flat_len (ncl D) 10 (ncl_len D) vs
  obtain ⟨l, hl⟩ : ∃ l, l = vs.flatMap (ncl D) := ⟨_, rfl⟩
  have HO := hid hW.ow
  rw [← hvn, ← hl] at HO
  rw [← hl] at E1
  have HH : Hid (∀ u ∈ vs, NVM D w u) := hid hW.ns
  generalize nkind v.k = f0 at *
  generalize nname v.k = f2 at *
  generalize nsize D v.k = f3 at *
  generalize nsum D v.k = f4 at *
  generalize nat_ v.k = f5 at *
  generalize nof v.k = f8 at *
  clear hQ hW hT hr hxc hvn hY hda hga hM hol hl
  conv => arg 2; whnf
  rw [fr71]
  simp only [s9, s5, s10, s12]
  clear s9 s5 s10 s12
  refine wp_seq_k (fun K0 hK0 => ?_)
  by_cases hx : xc = 0
  · subst hx
    go_wp2_with fail
    refine hK0.out _ _ ?_
    refine wp_cond_true rfl ?_
    clear t3 a2 exc
    have b3 := below_alloc w (.cells #[.int .i64 f0, .int .i64 7, .string f2, .int .i64 f3, .int .i64 f4, .int .i64 f5, .slice da dn dc, .slice ga gn gc, .int .i64 f8, .int .i64 0] 60)
    have hnew : ∀ (j : Nat) (u : Value), ([.int .i64 f0, .int .i64 7, .string f2, .int .i64 f3, .int .i64 f4, .int .i64 f5, .slice da dn dc, .slice ga gn gc, .int .i64 f8, .int .i64 0] : List Value)[j]? = some u → (w.alloc (.cells #[.int .i64 f0, .int .i64 7, .string f2, .int .i64 f3, .int .i64 f4, .int .i64 f5, .slice da dn dc, .slice ga gn gc, .int .i64 f8, .int .i64 0] 60)).cell? ((⟨w.heap.size, 0, none⟩ : Addr).add j) = some u := new_cells w [.int .i64 f0, .int .i64 7, .string f2, .int .i64 f3, .int .i64 f4, .int .i64 f5, .slice da dn dc, .slice ga gn gc, .int .i64 f8, .int .i64 0] 60
    have HO3 := hid (ownsRow_below HO.out b3)
    have HB3 := hid b3
    have hB3 : B2 ≤ (w.alloc (.cells #[.int .i64 f0, .int .i64 7, .string f2, .int .i64 f3, .int .i64 f4, .int .i64 f5, .slice da dn dc, .slice ga gn gc, .int .i64 f8, .int .i64 0] 60)).heap.size := Nat.le_trans hBw b3.size
    clear b3
    go_wp2_with (first | (with_reducible refine wpList_load_row (o := ⟨some 66, _, _, _, _, _⟩) rfl 60 _ rfl Y rfl 60 _ _ _ hY2 Try.underlying60 rfl (by kernel_rfl) ?_) | (at_builtin; refine wpList_append_own_at _ rfl _ _ 48 rfl B2 60 i60 _ 10 120 Try.underlying48 hi hz0 hz1 hz2 rfl (by decide) (.slice la vn lc) vn l rfl HO3.out ⟨w.heap.size, 0, none⟩ 1 1 [.int .i64 f0, .int .i64 7, .string f2, .int .i64 f3, .int .i64 f4, .int .i64 f5, .slice da dn dc, .slice ga gn gc, .int .i64 f8, .int .i64 0] rfl rfl hnew (by simp [Value.oneCell']) (by unfold maxLen; omega) (by omega) hB3 ?_))
    intro v' w3 own4 g4 hnl hat
    obtain ⟨va, vc, rfl, _, _⟩ := own_slice own4
    have s5 : Stays 5 _ w3 := Stays.ofOwn g4 HO3.out (by decide)
    have s84 : Stays 84 _ w3 := Stays.ofOwn g4 HO3.out (by decide)
    have sAll : ∀ t, t ≠ 60 → Stays t _ w3 := fun t ht => Stays.ofOwn g4 HO3.out (Ne.symm ht)
    have hlen3 : (vs ++ [v]).length = vn + 1 := by rw [List.length_append, ← Hvn.out]; rfl
    have bb : Below B2 w w3 := (HB3.out.mono hBw).grown g4 hB3 (fun j e => (HO3.out.lt j e).1)
    have hnr : NRow D w3 B2 va vc (vs ++ [v]) := by
      refine ⟨?_, fun u hu => ?_⟩
      · rw [hlen3, E1.out]
        exact own4
      · rcases List.mem_append.1 hu with h | h
        · exact ((HH.out u h).below HB3.out).stays s5 s84
        · rw [List.mem_singleton] at h
          subst h
          exact (HM.out.below HB3.out).stays s5 s84
    have hst : ∀ t, t ≠ 60 → Stays t w w3 := fun t ht => (Stays.ofBelow HB3.out : Stays t w _).trans (sAll t ht)
    have HF : Hid (TakP D w w3 B2 i lo vs v (.slice va (vn + 1) vc)) := hid ⟨⟨va, vc, vs ++ [v], by rw [hlen3], hnr, by rw [hbt.out]; rfl⟩, bb, hst⟩
    clear own4 g4 hnl hat s5 s84 sAll hlen3 bb hnr hst HO3 HB3 hB3 hnew
    go_wp2_with fail
    refine q_fr (N := 71) HQ.out rfl ⟨rfl, rfl, S5.out.symm, S10.out.symm, HF.out⟩
  · have dx : (xc == 0) = false := beq_eq_false_iff_ne.2 hx
    go_wp2_with fail
    refine hK0.out _ _ ?_
    refine wp_cond_false rfl ?_
    clear t3 a2 exc
    go_wp2_with fail
    refine q_fr (N := 71) HQ.out rfl ⟨rfl, rfl, S5.out.symm, S10.out.symm, ⟨⟨la, lc, vs, by rw [← Hvn.out]; rfl, HW.out, by rw [hbt.out, dx]; exact (List.append_nil _).symm⟩, Below.refl _ _, fun _ _ => Stays.refl _ _⟩⟩
end Go.Proofs.Ytopmamgdfngdoaa
/- deliver: some of the notes on their way come (walk 14). -/
namespace Go.Proofs.Ytopmamgdfngdoaa
set_option linter.unusedVariables false
open Go.RowKit

theorem comes_none {α : Type} (p : Nat → Nat → Nat) (c l : Nat → Bool) (i : Nat) : ∀ f, comesL p c l i f ([] : List α) = ([], [])
  | 0 => rfl
  | _ + 1 => rfl
theorem comes_step {α : Type} (p : Nat → Nat → Nat) (c l : Nat → Bool) (i N : Nat) (way : List α) (x : α) (hi : i < N) (hx : way[p i way.length]? = some x) :
    comesL p c l i (N - i) way = ((if l i = true then [] else [x]) ++ (comesL p c l (i + 1) (N - (i + 1)) (if c i = true then way else way.eraseIdx (p i way.length))).1, (comesL p c l (i + 1) (N - (i + 1)) (if c i = true then way else way.eraseIdx (p i way.length))).2) := by
  have e : N - i = (N - (i + 1)) + 1 := by omega
  rw [e]
  show (match way[p i way.length]? with | none => ([], way) | some x => _) = _
  rw [hx]
structure ComS (D : DP) (w W : World) (B T : Nat) (ob : Option Nat) (q lo cp d u : Int) (N i : Nat) (ks0 : List NT) (wa : Option Addr) (wc : Nat) (bs : List BV) (la : Option Addr) (lc : Nat) (vs : List NV) : Prop where
  wy : Way D W B wa wc bs
  nr : NRow D W w.heap.size la lc vs
  hv : ∀ v ∈ vs, vN D v.k
  oe : obk wa bs.length wc = ob ∨ ∀ g, obk wa bs.length wc = some g → w.heap.size ≤ g
  tb : W.heap[T]? = some (.cells #[.int .i64 d, .int .i64 u, .int .i64 q, .int .i64 lo, .int .i64 cp] 41)
  eq : comesL (pkF q) (btF cp) (btF lo) 0 N ks0 = (vs.map (·.k) ++ (comesL (pkF q) (btF cp) (btF lo) i (N - i) (bs.map (·.k))).1, (comesL (pkF q) (btF cp) (btF lo) i (N - i) (bs.map (·.k))).2)
  len : vs.length ≤ i
  blw : Below w.heap.size w W
def comI (D : DP) (w : World) (B T : Nat) (ob : Option Nat) (q lo cp d u : Int) (N L : Nat) (ks0 : List NT) (y : Nat → Value) (W : World) : Prop :=
  ∃ i wa wc bs la lc vs, i ≤ N ∧ (bs : List BV).length ≤ L ∧ y 0 = .slice wa bs.length wc ∧ y 1 = .int .i64 (N : Int) ∧ y 5 = .pointer (some ⟨T, 0, none⟩) ∧ y 9 = .slice la (vs : List NV).length lc ∧ y 10 = .int .i64 (i : Int) ∧ ComS D w W B T ob q lo cp d u N i ks0 wa wc bs la lc vs
structure ComR (D : DP) (w W : World) (B : Nat) (ob : Option Nat) (r : List NT × List NT) (e : Ending) : Prop where
  ex : ∃ la lc vs wa wc bs, e = .returned (.tuple #[.slice la (vs : List NV).length lc, .slice wa (bs : List BV).length wc, .bool true]) ∧ NRow D W w.heap.size la lc vs ∧ (∀ v ∈ vs, vN D v.k) ∧ vs.map (·.k) = r.1 ∧ Way D W B wa wc bs ∧ bs.map (·.k) = r.2 ∧ (obk wa bs.length wc = ob ∨ ∀ g, obk wa bs.length wc = some g → w.heap.size ≤ g)
  blw : Below w.heap.size w W
set_option maxRecDepth 1000000 in
set_option maxHeartbeats 8000000 in
theorem comes_ok (D : DP) (hD : DOk D) (B : Nat) (wa : Option Addr) (wc : Nat) (bs0 : List BV) (N : Nat) (d u q lo cp : Int) (w : World) (h : Way D w B wa wc bs0) (hB : B ≤ w.heap.size) (hN : N ≤ 1000) (hl : bs0.length ≤ 100000)
    (hq : -9223372036854775808 ≤ q ∧ q ≤ 9223372036854775807) :
    Calls Try.prog 14 #[.slice wa bs0.length wc, .int .i64 (N : Int), .agg #[.int .i64 d, .int .i64 u, .int .i64 q, .int .i64 lo, .int .i64 cp]] w fun e w' => ComR D w w' B (obk wa bs0.length wc) (comesL (pkF q) (btF cp) (btF lo) 0 N (bs0.map (·.k))) e := by
  obtain ⟨i22, hi, hz0, hz1, hz2⟩ := info_parts Try.info22
  obtain ⟨i60, hj, hy0, hy1, hy2⟩ := info_parts Try.info60
  obtain ⟨ob, hob⟩ : ∃ ob, ob = obk wa bs0.length wc := ⟨_, rfl⟩
  have bT := below_alloc w (.cells #[.int .i64 d, .int .i64 u, .int .i64 q, .int .i64 lo, .int .i64 cp] 41)
  have AT := heap_alloc_new w (.cells #[.int .i64 d, .int .i64 u, .int .i64 q, .int .i64 lo, .int .i64 cp] 41)
  have H0 := hid (show ComS D w (w.alloc (.cells #[.int .i64 d, .int .i64 u, .int .i64 q, .int .i64 lo, .int .i64 cp] 41)) B w.heap.size ob q lo cp d u N 0 (bs0.map (·.k)) wa wc bs0 none 0 [] from ⟨h.below bT, ⟨World.ownsRow_nil _ _ _ _, fun v hv => (by cases hv)⟩, fun v hv => (by cases hv), .inl hob.symm, AT, rfl, Nat.le_refl _, bT⟩)
  rw [← hob]
  obtain ⟨ks0, hks⟩ : ∃ ks0, ks0 = bs0.map (·.k) := ⟨_, rfl⟩
  rw [← hks] at H0 ⊢
  clear h bT AT hob hks
  go_enter Try.func14, Try.ntmps14
  refine wp_seq_k (fun K0 hK0 => ?_)
  go_wp2_with fail
  refine hK0.out _ _ ?_
  obtain ⟨T, hT⟩ : ∃ T, T = w.heap.size := ⟨_, rfl⟩
  rw [← hT] at H0 ⊢
  clear hT
  generalize w.alloc (.cells #[.int .i64 d, .int .i64 u, .int .i64 q, .int .i64 lo, .int .i64 cp] 41) = V at *
  refine wp_seq_k (fun K1 hK1 => ?_)
  go_wp2_with fail
  refine hK1.out _ _ ?_
  refine wp_seq_k (fun K2 hK2 => ?_)
  refine wp_seq_k (fun K3 hK3 => ?_)
  go_wp2_with fail
  refine hK3.out _ _ ?_
  refine wp_block ?_
  refine wp_loop_fr 71 (comI D w B T ob q lo cp d u N bs0.length ks0) (fun y' _ => N - (intOf (y' 10)).toNat) ⟨rfl, rfl, 0, wa, wc, bs0, none, 0, [], Nat.zero_le _, Nat.le_refl _, rfl, rfl, rfl, rfl, rfl, H0.out⟩ ?_
  clear H0
  rintro z W ⟨i, wa, wc, bs, la, lc, vs, hiN, hbL, s0, s1, s5, s9, s10, hS⟩
  have HS := hid hS
  have hvl := hS.len
  clear hS
  obtain ⟨bn, hbn⟩ : ∃ bn, bn = bs.length := ⟨_, rfl⟩
  obtain ⟨vn, hvn⟩ : ∃ vn, vn = vs.length := ⟨_, rfl⟩
  rw [← hbn] at s0 hbL
  rw [← hvn] at s9 hvl
  have Hbn := hid hbn
  have Hvn := hid hvn
  rw [fr71]
  simp only [s0, s1, s5, s9, s10]
  clear s0 s1 s5 s9 s10 hbn hvn
  refine wp_seq_k (fun L0 hL0 => ?_)
  refine wp_seq_k (fun L1 hL1 => ?_)
  by_cases hgo : i < N ∧ 0 < bn
  · obtain ⟨hlt, hb0⟩ := hgo
    have hkI : (i : Int) < (N : Int) := by omega
    have hbI : (0 : Int) < (bn : Int) := by omega
    go_wp2_with fail
    refine hL1.out _ _ ?_
    refine wp_cond_true rfl ?_
    go_wp2_with fail
    refine hL0.out _ _ ?_
    refine wp_seq_k (fun L2 hL2 => ?_)
    refine wp_block ?_
    refine wp_seq_k (fun L3 hL3 => ?_)
    have t2 : W.cell? ⟨T, 2, none⟩ = some (.int .i64 q) := by rw [cell_of_row _ _ _ _ _ _ HS.out.tb]; rfl
    have a1 : IntKind.i64.wrap ((i : Int) + 1) = (i : Int) + 1 := IntWalk.i64_in _ (by omega)
    have hrg := wrap64_rng (q * ((i : Int) + 1))
    have hpk := hid (pick_st (wrap64 (q * ((i : Int) + 1))) (bn : Int) W hrg.1 hrg.2 (by omega) (by omega))
    go_wp2_with fail
    refine hpk.out.mono ?_
    rintro e W' ⟨rfl, hW'⟩
    rw [hW']
    clear hW' W' hpk t2
    have hpe : pk (wrap64 (q * ((i : Int) + 1))) ((bn : Int).toNat) = pkF q i bn := rfl
    rw [hpe]
    clear hpe
    have hplt : pkF q i bn < bn := pk_lt _ _ hb0
    obtain ⟨k, hk⟩ : ∃ k, k = pkF q i bn := ⟨_, rfl⟩
    rw [← hk] at hplt ⊢
    have Hk := hid hk
    clear hk hrg
    go_wp2_with fail
    refine hL3.out _ _ ?_
    -- one note's bytes are read
    have hkl : k < bs.length := by rw [← Hbn.out]; exact hplt
    obtain ⟨b, hbe⟩ : ∃ b, b = bs[k] := ⟨_, rfl⟩
    have hbm : b ∈ bs := by rw [hbe]; exact List.getElem_mem hkl
    obtain ⟨g, hg⟩ : ∃ g, wa = some ⟨g, 0, none⟩ := by
      rcases HS.out.wy.own.2 with ⟨_, h0⟩ | ⟨g, cap, cur, hv, _⟩
      · rw [← Hbn.out] at h0; omega
      · injection hv with hv
        exact ⟨g, hv⟩
    subst hg
    obtain ⟨ln, hln⟩ : ∃ ln, ln = (nby D b.k).length := ⟨_, rfl⟩
    have c0 : W.cell? ⟨g, k, none⟩ = some (.slice b.a ln b.c) := by
      rw [HS.out.wy.own.cellAt k (by omega), List.getElem?_map, List.getElem?_eq_getElem hkl, ← hbe, hln]
      rfl
    have hdec := hid (Dec_ok D hD b.k (HS.out.wy.vd b hbm) b.a ln b.c W hln (by rw [hln]; exact HS.out.wy.rd b hbm))
    have Hbe := hid hbe
    have Hvb := hid (HS.out.wy.vd b hbm)
    have hk0' : (0 : Int) ≤ (k : Int) := by omega
    have hkbI : (k : Int) < (bn : Int) := by omega
    have hkt : ((k : Nat) : Int).toNat = k := rfl
    clear hbe hbm hln
    refine wp_seq_k (fun L4 hL4 => ?_)
    go_wp2_with fail
    refine hdec.out.mono ?_
    rintro e V1 ⟨⟨a', c', rfl, hm⟩, hb⟩
    obtain ⟨cs, hcs⟩ : ∃ cs, cs = (ncl D ⟨b.k, a', c'⟩).toArray := ⟨_, rfl⟩
    rw [← hcs]
    have hsz : cs.size = 10 := by rw [hcs]; rfl
    have hone : cs.all (fun x => x.oneCell') = true := by
      obtain ⟨da, dn, dc, hda⟩ := ndata_slice ⟨b.k, a', c'⟩
      obtain ⟨ga, gn, gc, hga⟩ := ngaps_slice ⟨b.k, a', c'⟩
      rw [hcs]
      unfold ncl ncI
      rw [hda, hga]
      simp [Value.oneCell']
    have Hcs := hid hcs
    clear hcs hdec c0
    have bZ := below_alloc V1 (.cells #[.int .i64 0, .int .i64 0, .string { data := #[] }, .int .i64 0, .int .i64 0, .int .i64 0, .slice none 0 0, .slice none 0 0, .int .i64 0, .int .i64 0] 60)
    have AZ := heap_alloc_new V1 (.cells #[.int .i64 0, .int .i64 0, .string { data := #[] }, .int .i64 0, .int .i64 0, .int .i64 0, .slice none 0 0, .slice none 0 0, .int .i64 0, .int .i64 0] 60)
    obtain ⟨z1, z2⟩ := set_whole (cs' := cs) AZ
    have bAll : Below W.heap.size W ((V1.alloc (.cells #[.int .i64 0, .int .i64 0, .string { data := #[] }, .int .i64 0, .int .i64 0, .int .i64 0, .slice none 0 0, .slice none 0 0, .int .i64 0, .int .i64 0] 60)).setRow V1.heap.size cs) := (hb.trans (bZ.mono hb.size)).grown z2 (Nat.le_trans hb.size bZ.size) (fun j e => by cases e; exact hb.size)
    have hm2 := hid ((hm.below bZ).stays (Stays.ofSet z2 AZ (by decide)) (Stays.ofSet z2 AZ (by decide)))
    have BAll := hid bAll
    have HZ1 := hid z1
    clear z1 z2 bAll hm hb bZ
    go_wp2_with (with_reducible refine at_store 60 ?_)
    unfold Hid
    refine wpList_store_row rfl 60 _ _ rfl V1.heap.size cs rfl rfl 60 _ AZ (by rw [hsz]; try rfl) (by rw [hsz]; try rfl) hone ?_
    clear AZ
    generalize (V1.alloc (.cells #[.int .i64 0, .int .i64 0, .string { data := #[] }, .int .i64 0, .int .i64 0, .int .i64 0, .slice none 0 0, .slice none 0 0, .int .i64 0, .int .i64 0] 60)).setRow V1.heap.size cs = V2 at *
    generalize V1.heap.size = Y at *
    go_wp2_with fail
    refine hL4.out _ _ ?_
    refine wp_seq_k (fun L5 hL5 => ?_)
    refine wp_seq_k (fun L6 hL6 => ?_)
    go_wp2_with fail
    refine hL6.out _ _ ?_
    refine wp_cond_false rfl ?_
    go_wp2_with fail
    refine hL5.out _ _ ?_
    -- does it stay?
    have HS2 : Hid (ComS D w V2 B T ob q lo cp d u N i ks0 (some ⟨g, 0, none⟩) wc bs la lc vs) := hid (by
      have h := HS.out
      exact ⟨h.wy.below BAll.out, h.nr.below BAll.out, h.hv, h.oe, row_below h.tb BAll.out, h.eq, h.len, h.blw.trans (BAll.out.mono h.blw.size)⟩)
    have hVw : w.heap.size ≤ V2.heap.size := HS2.out.blw.size
    have hBV : B ≤ V2.heap.size := Nat.le_trans hB hVw
    clear HS BAll
    refine wp_seq_k (fun L7 hL7 => ?_)
    refine Tri.use (com_copy D B T g wc bn i k d u q lo cp bs Hbn.out hplt (by omega) (by omega)) rfl ⟨rfl, rfl, rfl, rfl, HS2.out.wy, HS2.out.tb, hBV⟩ ?_
    rintro y1 W1 ⟨e1, e5, e9, e10, e12, ⟨wa1, wc1, bs1, e0, hwy1, hks1, hle1, hob1⟩, hb1⟩
    refine hL7.out _ _ ?_
    have HM1 := hid (hm2.out.below hb1)
    have HZ2 := hid (row_below HZ1.out hb1)
    have HT2 := hid (row_below HS2.out.tb hb1)
    have HN2 := hid (HS2.out.nr.below hb1)
    have hW1 : w.heap.size ≤ W1.heap.size := Nat.le_trans hVw hb1.size
    rw [Hcs.out] at HZ2
    refine Tri.use (com_take D w.heap.size T Y vn lc i la d u q lo cp vs ⟨b.k, a', c'⟩ Hvn.out (by omega) (by omega)) rfl ⟨(fr_at 71 y1 9 (by decide)).trans e9, (fr_at 71 y1 5 (by decide)).trans e5, (fr_at 71 y1 10 (by decide)).trans e10, (fr_at 71 y1 12 (by decide)).trans e12, HN2.out, HM1.out, HT2.out, HZ2.out, hW1⟩ ?_
    rintro y2 W2 ⟨h0, h1, h5, h10, ⟨la2, lc2, vs2, h9, hnr2, hvs2⟩, hb2, hst2⟩
    have h0 := h0.trans (fr_at 71 y1 0 (by decide))
    have h1 := h1.trans (fr_at 71 y1 1 (by decide))
    have h5 := h5.trans (fr_at 71 y1 5 (by decide))
    have h10 := h10.trans (fr_at 71 y1 10 (by decide))
    have h0 := h0.trans e0
    have h1 := h1.trans e1
    have h5 := h5.trans e5
    have h10 := h10.trans e10
    clear e0 e1 e5 e9 e10 e12
    have HS3 : Hid (ComS D w W2 B T ob q lo cp d u N (i + 1) ks0 wa1 wc1 bs1 la2 lc2 vs2) := hid (by
      have h := HS2.out
      have hbw : bs.length = bn := Hbn.out.symm
      have hxx : (bs.map (·.k))[pkF q i (bs.map (·.k)).length]? = some b.k := by
        rw [List.length_map, hbw, ← Hk.out, List.getElem?_map, List.getElem?_eq_getElem hkl, ← Hbe.out]
        rfl
      refine ⟨hwy1.stays (hst2 22 (by decide)) (hst2 5 (by decide)), hnr2, ?_, ?_, hst2 41 (by decide) _ _ HT2.out, ?_, ?_, (h.blw.trans (hb1.mono hVw)).trans hb2⟩
      · intro v hv
        rw [hvs2] at hv
        rcases List.mem_append.1 hv with hv | hv
        · exact h.hv v hv
        · split at hv
          · cases hv
          · rw [List.mem_singleton] at hv
            subst hv
            exact Hvb.out
      · rcases hob1 with e | e
        · rcases h.oe with e2 | e2
          · exact .inl (e.trans (by rw [← hbw] at *; exact e2))
          · exact .inr fun g' hg' => e2 g' (by rw [← hg', e, hbw])
        · exact .inr fun g' hg' => Nat.le_trans hVw (e g' hg')
      · rw [h.eq, comes_step _ _ _ i N _ b.k hlt hxx, hks1, hvs2, List.length_map, hbw, ← Hk.out]
        refine Prod.ext ?_ rfl
        show _ ++ (_ ++ _) = List.map _ (_ ++ _) ++ _
        rw [List.map_append, List.append_assoc]
        congr 2
        split <;> rfl
      · rw [hvs2, List.length_append]
        have := h.len
        split <;> simp only [List.length_nil, List.length_cons] <;> omega)
    have hle2 : bs1.length ≤ bs0.length := by have := Hbn.out; omega
    clear HS2 hm2 HM1 HZ1 HZ2 HT2 HN2 hwy1 hks1 hle1 hob1 hb1 hb2 hst2 hnr2 hvs2 Hbe Hvb Hk
    rw [fr71]
    simp only [h0, h1, h5, h9, h10]
    clear h0 h1 h5 h9 h10
    go_wp2_with fail
    refine hL2.out _ _ ?_
    go_wp2_with fail
    refine ⟨rfl, rfl, ⟨i + 1, wa1, wc1, bs1, la2, lc2, vs2, by omega, hle2, rfl, rfl, rfl, rfl, ?_, HS3.out⟩, ?_⟩
    · show Value.int .i64 _ = Value.int .i64 _
      go_num
    · show _ - (intOf (Value.int .i64 _)).toNat < _
      simp [intOf]
      omega
  · have HE : Hid (comesL (pkF q) (btF cp) (btF lo) 0 N ks0 = (vs.map (·.k), bs.map (·.k))) := hid (by
      rw [HS.out.eq]
      by_cases hlt : i < N
      · have hb0 : bs = [] := List.eq_nil_of_length_eq_zero (by rw [← Hbn.out]; omega)
        rw [hb0]
        show (_ ++ (comesL _ _ _ i (N - i) []).1, (comesL _ _ _ i (N - i) []).2) = _
        rw [comes_none, List.append_nil]
        rfl
      · have e0 : N - i = 0 := by omega
        rw [e0]
        show (_ ++ [], _) = _
        rw [List.append_nil]
        rfl)
    have HR : Hid (ComR D w W B ob (comesL (pkF q) (btF cp) (btF lo) 0 N ks0) (.returned (.tuple #[.slice la vn lc, .slice wa bn wc, .bool true]))) := hid (by
      have h := HS.out
      exact ⟨⟨la, lc, vs, wa, wc, bs, by rw [← Hbn.out, ← Hvn.out], h.nr, h.hv, by rw [HE.out], h.wy, by rw [HE.out], h.oe⟩, h.blw⟩)
    by_cases hlt : i < N
    · obtain rfl : bn = 0 := by omega
      have hkI : (i : Int) < (N : Int) := by omega
      go_wp2_with fail
      refine hL1.out _ _ ?_
      refine wp_cond_false rfl ?_
      go_wp2_with fail
      refine hK2.out _ _ ?_
      go_wp2_with fail
      refine bodyPost_ret (results_t3 (fn := Try.f14) rfl _ _) rfl ?_
      exact HR.out
    · have hkI : ¬ (i : Int) < (N : Int) := by omega
      go_wp2_with fail
      refine hL1.out _ _ ?_
      refine wp_cond_false rfl ?_
      go_wp2_with fail
      refine hK2.out _ _ ?_
      go_wp2_with fail
      refine bodyPost_ret (results_t3 (fn := Try.f14) rfl _ _) rfl ?_
      exact HR.out
end Go.Proofs.Ytopmamgdfngdoaa
/- deliver: what crosses: the giver, the taker, and the notes on their way. -/
namespace Go.Proofs.Ytopmamgdfngdoaa
set_option linter.unusedVariables false
open Go.RowKit

theorem vD_vN {D : DP} (hD : DOk D) {gs : Nat} {k : NT} (h : vD D.P gs k) : vN D k := by
  cases k with
  | nm => trivial
  | np x y => exact ⟨h.1, h.2.1⟩
  | ne => trivial
  | sd => trivial
  | ng l => exact absurd h id
  | nd => exact absurd h id
  | se => exact absurd h id
theorem vU_vN {D : DP} {gs ts : Nat} {k : NT} (h : vU D.P gs ts k) : vN D k := by
  cases k with
  | ng l => exact ⟨⟨List.length_pos_iff.2 h.1, h.2.1⟩, h.2.2.1⟩
  | nd => trivial
  | se => trivial
  | nm => exact absurd h id
  | np x y => exact absurd h id
  | ne => exact absurd h id
  | sd => exact absurd h id
/-- Take, of whatever may come down -/
theorem Take_ok (D : DP) (hD : DOk D) (hSum : SumOk D) (t : TS) (ha : Option Addr) (hc : Nat) (fa : Option Addr) (fc : Nat) (v : NV) (gs : Nat) (w : World) (hT : TI D.P t) (hM : TkT D w t ha hc fa fc) (hv : vD D.P gs v.k) (hm : NVM D w v) :
    Calls Try.prog 15 #[.agg (tcells D t ha t.hv.length hc fa (topH t.hv) fc), .agg (ncl D v).toArray] w fun e w' => TakeR D w w' (takeT D.P t v.k).1 (takeT D.P t v.k).2 e := by
  obtain ⟨k, a, c⟩ := v
  cases k with
  | nm => exact Take_nm D hD hSum t ha _ hc fa _ fc w hT rfl rfl hM
  | np x y => exact Take_np D hD hSum t ha _ hc fa _ fc x y (y - x) c a w hT rfl rfl hM rfl hv.1 hv.2.1 hm
  | ne => exact Take_ne D hD hSum t ha _ hc fa _ fc w hT rfl rfl hM
  | sd => exact Take_sd D hD hSum t ha _ hc fa _ fc w hT rfl rfl hM
  | ng l => exact absurd hv id
  | nd => exact absurd hv id
  | se => exact absurd hv id
/-- what stays: all but the crossing and the rows of notes on their way -/
structure Kp (B : Nat) (W W' : World) : Prop where
  sz : W.heap.size ≤ W'.heap.size
  st : ∀ T, T ≠ 39 → T ≠ 22 → Stays T W W'
  bl : Below B W W'
theorem Kp.refl (B : Nat) (W : World) : Kp B W W := ⟨Nat.le_refl _, fun _ _ _ => Stays.refl _ _, Below.refl _ _⟩
theorem Kp.trans {B : Nat} {W W' W'' : World} (h : Kp B W W') (k : Kp B W' W'') : Kp B W W'' := ⟨Nat.le_trans h.sz k.sz, fun T a b => (h.st T a b).trans (k.st T a b), h.bl.trans k.bl⟩
theorem Kp.ofBelow {B : Nat} {W W' : World} (h : Below W.heap.size W W') (hB : B ≤ W.heap.size) : Kp B W W' := ⟨h.size, fun _ _ _ => Stays.ofBelow h, h.mono hB⟩
theorem NRow.kp {D : DP} {W W' : World} {B B' : Nat} {oa : Option Addr} {oc : Nat} {vs : List NV} (h : NRow D W B oa oc vs) (hk : Kp B' W W') : NRow D W' B oa oc vs := ⟨own_stays h.ow (hk.st 60 (by decide) (by decide)), fun v hv => (h.ns v hv).stays (hk.st 5 (by decide) (by decide)) (hk.st 84 (by decide) (by decide))⟩
/-- where the parts of the crossing lie -/
structure CA where
  ga : Option Addr
  gc : Nat
  aa : Option Addr
  ac : Nat
  ha : Option Addr
  hc : Nat
  fa : Option Addr
  fc : Nat
  da : Option Addr
  dc : Nat
  db : List BV
  ua : Option Addr
  uc : Nat
  ub : List BV
def CA.giv (A : CA) (fa : Option Addr) (fc : Nat) (aa : Option Addr) (ac : Nat) : CA := { A with ga := fa, gc := fc, aa := aa, ac := ac }
def CA.tak (A : CA) (ha : Option Addr) (hc : Nat) (fa : Option Addr) (fc : Nat) : CA := { A with ha := ha, hc := hc, fa := fa, fc := fc }
def CA.dn (A : CA) (a : Option Addr) (c : Nat) (b : List BV) : CA := { A with da := a, dc := c, db := b }
def CA.up (A : CA) (a : Option Addr) (c : Nat) (b : List BV) : CA := { A with ua := a, uc := c, ub := b }
abbrev gcX (D : DP) (g : GS) (A : CA) : List Value := (gcells D g A.ga D.P.F A.gc A.aa g.ag.length A.ac).toList
abbrev tcX (D : DP) (t : TS) (A : CA) : List Value := (tcells D t A.ha t.hv.length A.hc A.fa (topH t.hv) A.fc).toList
abbrev dvl (A : CA) : Value := .slice A.da A.db.length A.dc
abbrev uvl (A : CA) : Value := .slice A.ua A.ub.length A.uc
def xbl (gl tl : List Value) (d u : Value) : List Value := gl ++ (tl ++ [d, u])
structure CB (D : DP) (W : World) (X B : Nat) (g : GS) (t : TS) (A : CA) : Prop where
  bx : W.heap[X]? = some (.cells (xbl (gcX D g A) (tcX D t A) (dvl A) (uvl A)).toArray 39)
  gv : GvT D W g A.ga A.gc A.aa A.ac
  tk : TkT D W t A.ha A.hc A.fa A.fc
  dn : Way D W B A.da A.dc A.db
  up : Way D W B A.ua A.uc A.ub
  ne : ∀ n, (dvl A).ownBlock = some n → (uvl A).ownBlock ≠ some n
  bX : B ≤ X
theorem CB.hB {D : DP} {W : World} {X B : Nat} {g : GS} {t : TS} {A : CA} (h : CB D W X B g t A) : B ≤ W.heap.size := Nat.le_trans h.bX (Nat.le_of_lt (row_lt h.bx))
theorem CB.below {D : DP} {W W' : World} {X B : Nat} {g : GS} {t : TS} {A : CA} (h : CB D W X B g t A) (hb : Below W.heap.size W W') : CB D W' X B g t A := ⟨row_below h.bx hb, h.gv.below hb, h.tk.below hb, h.dn.below hb, h.up.below hb, h.ne, h.bX⟩
theorem xbl_27 (gl tl : List Value) (hg : gl.length = 13) (ht : tl.length = 14) (d u : Value) : (xbl gl tl d u)[27]? = some d ∧ (xbl gl tl d u)[28]? = some u ∧ ∀ v, (xbl gl tl d u).toArray.setIfInBounds 27 v = (xbl gl tl v u).toArray ∧ (xbl gl tl d u).toArray.setIfInBounds 28 v = (xbl gl tl d v).toArray := by
  unfold xbl
  refine ⟨?_, ?_, fun v => ⟨?_, ?_⟩⟩
  · rw [List.getElem?_append_right (by omega), List.getElem?_append_right (by omega), hg, ht]; rfl
  · rw [List.getElem?_append_right (by omega), List.getElem?_append_right (by omega), hg, ht]; rfl
  · rw [List.setIfInBounds_toArray, List.set_append_right _ _ (by omega), List.set_append_right _ _ (by omega), hg, ht]; rfl
  · rw [List.setIfInBounds_toArray, List.set_append_right _ _ (by omega), List.set_append_right _ _ (by omega), hg, ht]; rfl
theorem gcX_len (D : DP) (g : GS) (A : CA) : (gcX D g A).length = 13 := rfl
theorem tcX_len (D : DP) (t : TS) (A : CA) : (tcX D t A).length = 14 := rfl
theorem CB.c27 {D : DP} {W : World} {X B : Nat} {g : GS} {t : TS} {A : CA} (h : CB D W X B g t A) : W.cell? ⟨X, 27, none⟩ = some (dvl A) := by
  rw [cell_of_row _ _ _ _ _ _ h.bx]
  exact (xbl_27 (gcX D g A) (tcX D t A) (gcX_len D g A) (tcX_len D t A) (dvl A) (uvl A)).1
theorem CB.c28 {D : DP} {W : World} {X B : Nat} {g : GS} {t : TS} {A : CA} (h : CB D W X B g t A) : W.cell? ⟨X, 28, none⟩ = some (uvl A) := by
  rw [cell_of_row _ _ _ _ _ _ h.bx]
  exact (xbl_27 (gcX D g A) (tcX D t A) (gcX_len D g A) (tcX_len D t A) (dvl A) (uvl A)).2.1
theorem box_27 {D : DP} {W : World} {X : Nat} {g : GS} {t : TS} {A : CA} (h : W.heap[X]? = some (.cells (xbl (gcX D g A) (tcX D t A) (dvl A) (uvl A)).toArray 39)) : W.cell? ⟨X, 27, none⟩ = some (dvl A) ∧ W.cell? ⟨X, 28, none⟩ = some (uvl A) := by
  rw [cell_of_row _ _ _ _ _ _ h, cell_of_row _ _ _ _ _ _ h]
  exact ⟨(xbl_27 (gcX D g A) (tcX D t A) (gcX_len D g A) (tcX_len D t A) (dvl A) (uvl A)).1, (xbl_27 (gcX D g A) (tcX D t A) (gcX_len D g A) (tcX_len D t A) (dvl A) (uvl A)).2.1⟩
/-- notes were laid on their way down -/
theorem CB.sentD {D : DP} {W W1 : World} {X B : Nat} {g : GS} {t : TS} {A : CA} {wa : Option Addr} {wc : Nat} {bs : List BV} {ks : List NT} (h : CB D W X B g t A) (hs : SendS D W W1 B (dvl A).ownBlock A.db wa wc bs ks) :
    W1.heap[X]? = some (.cells (xbl (gcX D g A) (tcX D t A) (dvl A) (uvl A)).toArray 39) ∧ CB D (W1.setCell ⟨X, 27, none⟩ (.slice wa bs.length wc)) X B g t (A.dn wa wc bs) ∧ Kp B W (W1.setCell ⟨X, 27, none⟩ (.slice wa bs.length wc)) := by
  have hX1 : W1.heap[X]? = _ := (hs.g.block X (row_lt h.bx) (fun e => by rcases own_ne h.dn.own h.bx (by decide) with k | k; (rw [show (dvl A).ownBlock = none from k] at e; cases e); exact k e.symm)).trans h.bx
  obtain ⟨m1, m2⟩ := set_row (cs' := (xbl (gcX D g A) (tcX D t A) (.slice wa bs.length wc) (uvl A)).toArray) hX1 27 (.slice wa bs.length wc) ((xbl_27 _ _ (gcX_len D g A) (tcX_len D t A) _ _).2.2 _).1
  have s1 : ∀ T, T ≠ 22 → Stays T W W1 := fun T hT => Stays.ofOwn hs.g h.dn.own (Ne.symm hT)
  have s2 : ∀ T, T ≠ 39 → Stays T W1 (W1.setCell ⟨X, 27, none⟩ (.slice wa bs.length wc)) := fun T hT => Stays.ofSet m2 hX1 hT
  have s3 : ∀ T, T ≠ 39 → T ≠ 22 → Stays T W (W1.setCell ⟨X, 27, none⟩ (.slice wa bs.length wc)) := fun T a b => (s1 T b).trans (s2 T a)
  refine ⟨hX1, ⟨m1, h.gv.stays (s3 5 (by decide) (by decide)) (s3 84 (by decide) (by decide)), h.tk.stays (s3 5 (by decide) (by decide)) (s3 84 (by decide) (by decide)), hs.wy.stays (s2 22 (by decide)) (s2 5 (by decide)), ?_, ?_, h.bX⟩, ⟨Nat.le_trans hs.g.size m2.size, s3, ((Below.refl B W).grown hs.g h.hB (fun k e => (h.dn.own.lt k e).1)).grown m2 (Nat.le_trans h.hB hs.g.size) (fun k e => by cases e; exact h.bX)⟩⟩
  · refine (h.up.other hs.g ?_ (s1 5 (by decide))).stays (s2 22 (by decide)) (s2 5 (by decide))
    cases hu : (uvl A).ownBlock with
    | none => exact .inl rfl
    | some n => exact .inr (fun e => h.ne n e.symm hu)
  · intro n hn hn2
    rcases hs.oe with e | e
    · exact h.ne n (e.symm.trans hn) hn2
    · have h1 := e n hn
      have h2 := (h.up.own.lt n hn2).2
      omega
theorem CB.sentU {D : DP} {W W1 : World} {X B : Nat} {g : GS} {t : TS} {A : CA} {wa : Option Addr} {wc : Nat} {bs : List BV} {ks : List NT} (h : CB D W X B g t A) (hs : SendS D W W1 B (uvl A).ownBlock A.ub wa wc bs ks) :
    W1.heap[X]? = some (.cells (xbl (gcX D g A) (tcX D t A) (dvl A) (uvl A)).toArray 39) ∧ CB D (W1.setCell ⟨X, 28, none⟩ (.slice wa bs.length wc)) X B g t (A.up wa wc bs) ∧ Kp B W (W1.setCell ⟨X, 28, none⟩ (.slice wa bs.length wc)) := by
  have hX1 : W1.heap[X]? = _ := (hs.g.block X (row_lt h.bx) (fun e => by rcases own_ne h.up.own h.bx (by decide) with k | k; (rw [show (uvl A).ownBlock = none from k] at e; cases e); exact k e.symm)).trans h.bx
  obtain ⟨m1, m2⟩ := set_row (cs' := (xbl (gcX D g A) (tcX D t A) (dvl A) (.slice wa bs.length wc)).toArray) hX1 28 (.slice wa bs.length wc) ((xbl_27 _ _ (gcX_len D g A) (tcX_len D t A) _ _).2.2 _).2
  have s1 : ∀ T, T ≠ 22 → Stays T W W1 := fun T hT => Stays.ofOwn hs.g h.up.own (Ne.symm hT)
  have s2 : ∀ T, T ≠ 39 → Stays T W1 (W1.setCell ⟨X, 28, none⟩ (.slice wa bs.length wc)) := fun T hT => Stays.ofSet m2 hX1 hT
  have s3 : ∀ T, T ≠ 39 → T ≠ 22 → Stays T W (W1.setCell ⟨X, 28, none⟩ (.slice wa bs.length wc)) := fun T a b => (s1 T b).trans (s2 T a)
  refine ⟨hX1, ⟨m1, h.gv.stays (s3 5 (by decide) (by decide)) (s3 84 (by decide) (by decide)), h.tk.stays (s3 5 (by decide) (by decide)) (s3 84 (by decide) (by decide)), ?_, hs.wy.stays (s2 22 (by decide)) (s2 5 (by decide)), ?_, h.bX⟩, ⟨Nat.le_trans hs.g.size m2.size, s3, ((Below.refl B W).grown hs.g h.hB (fun k e => (h.up.own.lt k e).1)).grown m2 (Nat.le_trans h.hB hs.g.size) (fun k e => by cases e; exact h.bX)⟩⟩
  · refine (h.dn.other hs.g ?_ (s1 5 (by decide))).stays (s2 22 (by decide)) (s2 5 (by decide))
    cases hu : (dvl A).ownBlock with
    | none => exact .inl rfl
    | some n => exact .inr (fun e => h.ne n hu e.symm)
  · intro n hn hn2
    rcases hs.oe with e | e
    · exact h.ne n hn (e.symm.trans hn2)
    · have h1 := e n hn2
      have h2 := (h.dn.own.lt n hn).2
      omega
/-- notes came down -/
theorem CB.cameD {D : DP} {W W1 : World} {X B : Nat} {g : GS} {t : TS} {A : CA} {wa : Option Addr} {wc : Nat} {bs : List BV} (h : CB D W X B g t A) (hb : Below W.heap.size W W1) (hw : Way D W1 B wa wc bs) (ho : obk wa bs.length wc = (dvl A).ownBlock ∨ ∀ g, obk wa bs.length wc = some g → W.heap.size ≤ g) :
    CB D (W1.setCell ⟨X, 27, none⟩ (.slice wa bs.length wc)) X B g t (A.dn wa wc bs) ∧ Kp B W (W1.setCell ⟨X, 27, none⟩ (.slice wa bs.length wc)) ∧ Kp B W1 (W1.setCell ⟨X, 27, none⟩ (.slice wa bs.length wc)) := by
  have h1 := h.below hb
  obtain ⟨m1, m2⟩ := set_row (cs' := (xbl (gcX D g A) (tcX D t A) (.slice wa bs.length wc) (uvl A)).toArray) h1.bx 27 (.slice wa bs.length wc) ((xbl_27 _ _ (gcX_len D g A) (tcX_len D t A) _ _).2.2 _).1
  have s2 : ∀ T, T ≠ 39 → Stays T W1 (W1.setCell ⟨X, 27, none⟩ (.slice wa bs.length wc)) := fun T hT => Stays.ofSet m2 h1.bx hT
  refine ⟨⟨m1, h1.gv.stays (s2 5 (by decide)) (s2 84 (by decide)), h1.tk.stays (s2 5 (by decide)) (s2 84 (by decide)), hw.stays (s2 22 (by decide)) (s2 5 (by decide)), h1.up.stays (s2 22 (by decide)) (s2 5 (by decide)), ?_, h.bX⟩, ⟨Nat.le_trans hb.size m2.size, fun T a b => (Stays.ofBelow hb : Stays T W W1).trans (s2 T a), (hb.mono h.hB).grown m2 (Nat.le_trans h.hB hb.size) (fun k e => by cases e; exact h.bX)⟩, ⟨m2.size, fun T a _ => s2 T a, (Below.refl B W1).grown m2 (Nat.le_trans h.hB hb.size) (fun k e => by cases e; exact h.bX)⟩⟩
  intro n hn hn2
  rcases ho with e | e
  · exact h.ne n (e.symm.trans hn) hn2
  · have k1 := e n hn
    have k2 := (h.up.own.lt n hn2).2
    omega
theorem CB.cameU {D : DP} {W W1 : World} {X B : Nat} {g : GS} {t : TS} {A : CA} {wa : Option Addr} {wc : Nat} {bs : List BV} (h : CB D W X B g t A) (hb : Below W.heap.size W W1) (hw : Way D W1 B wa wc bs) (ho : obk wa bs.length wc = (uvl A).ownBlock ∨ ∀ g, obk wa bs.length wc = some g → W.heap.size ≤ g) :
    CB D (W1.setCell ⟨X, 28, none⟩ (.slice wa bs.length wc)) X B g t (A.up wa wc bs) ∧ Kp B W (W1.setCell ⟨X, 28, none⟩ (.slice wa bs.length wc)) ∧ Kp B W1 (W1.setCell ⟨X, 28, none⟩ (.slice wa bs.length wc)) := by
  have h1 := h.below hb
  obtain ⟨m1, m2⟩ := set_row (cs' := (xbl (gcX D g A) (tcX D t A) (dvl A) (.slice wa bs.length wc)).toArray) h1.bx 28 (.slice wa bs.length wc) ((xbl_27 _ _ (gcX_len D g A) (tcX_len D t A) _ _).2.2 _).2
  have s2 : ∀ T, T ≠ 39 → Stays T W1 (W1.setCell ⟨X, 28, none⟩ (.slice wa bs.length wc)) := fun T hT => Stays.ofSet m2 h1.bx hT
  refine ⟨⟨m1, h1.gv.stays (s2 5 (by decide)) (s2 84 (by decide)), h1.tk.stays (s2 5 (by decide)) (s2 84 (by decide)), h1.dn.stays (s2 22 (by decide)) (s2 5 (by decide)), hw.stays (s2 22 (by decide)) (s2 5 (by decide)), ?_, h.bX⟩, ⟨Nat.le_trans hb.size m2.size, fun T a b => (Stays.ofBelow hb : Stays T W W1).trans (s2 T a), (hb.mono h.hB).grown m2 (Nat.le_trans h.hB hb.size) (fun k e => by cases e; exact h.bX)⟩, ⟨m2.size, fun T a _ => s2 T a, (Below.refl B W1).grown m2 (Nat.le_trans h.hB hb.size) (fun k e => by cases e; exact h.bX)⟩⟩
  intro n hn hn2
  rcases ho with e | e
  · exact h.ne n hn (e.symm.trans hn2)
  · have k1 := e n hn2
    have k2 := (h.dn.own.lt n hn).2
    omega
/-- another giver -/
theorem CB.given {D : DP} {W W1 : World} {X B : Nat} {g g' : GS} {t : TS} {A : CA} {fa : Option Addr} {fc : Nat} {aa : Option Addr} {ac : Nat} (h : CB D W X B g t A) (hk : Kp B W W1) (hX : W1.heap[X]? = some (.cells (xbl (gcX D g' (A.giv fa fc aa ac)) (tcX D t A) (dvl A) (uvl A)).toArray 39)) (h22 : Stays 22 W W1) (hg : GvT D W1 g' fa fc aa ac) :
    CB D W1 X B g' t (A.giv fa fc aa ac) :=
  ⟨hX, hg, h.tk.stays (hk.st 5 (by decide) (by decide)) (hk.st 84 (by decide) (by decide)), h.dn.stays h22 (hk.st 5 (by decide) (by decide)), h.up.stays h22 (hk.st 5 (by decide) (by decide)), h.ne, h.bX⟩
theorem CB.taken {D : DP} {W W1 : World} {X B : Nat} {g : GS} {t t' : TS} {A : CA} {ha : Option Addr} {hc : Nat} {fa : Option Addr} {fc : Nat} (h : CB D W X B g t A) (hk : Kp B W W1) (hX : W1.heap[X]? = some (.cells (xbl (gcX D g A) (tcX D t' (A.tak ha hc fa fc)) (dvl A) (uvl A)).toArray 39)) (h22 : Stays 22 W W1) (ht : TkT D W1 t' ha hc fa fc) :
    CB D W1 X B g t' (A.tak ha hc fa fc) :=
  ⟨hX, h.gv.stays (hk.st 5 (by decide) (by decide)) (hk.st 84 (by decide) (by decide)), ht, h.dn.stays h22 (hk.st 5 (by decide) (by decide)), h.up.stays h22 (hk.st 5 (by decide) (by decide)), h.ne, h.bX⟩
/-- the giver, or the taker, is stored to -/
theorem set_giv {W : World} {X : Nat} {gl gl' tl : List Value} {d u : Value} (h : W.heap[X]? = some (.cells (xbl gl tl d u).toArray 39)) (hl : gl.length = gl'.length) :
    (W.setCells X 0 gl').heap[X]? = some (.cells (xbl gl' tl d u).toArray 39) ∧ W.grownBy (W.setCells X 0 gl') (some X) := set_cells (tl ++ [d, u]) gl' [] gl W h hl
theorem set_tak {W : World} {X : Nat} {gl tl tl' : List Value} {d u : Value} (h : W.heap[X]? = some (.cells (xbl gl tl d u).toArray 39)) (hg : gl.length = 13) (hl : tl.length = tl'.length) :
    (W.setCells X 13 tl').heap[X]? = some (.cells (xbl gl tl' d u).toArray 39) ∧ W.grownBy (W.setCells X 13 tl') (some X) := by
  have := set_cells (b := X) (e := 39) [d, u] tl' gl tl W h hl
  rw [hg] at this
  exact this
theorem rng_giv {W : World} {X : Nat} {gl tl : List Value} {d u : Value} (h : W.heap[X]? = some (.cells (xbl gl tl d u).toArray 39)) : W.rangeAt X 0 gl := range_row (a := []) (z := tl ++ [d, u]) h
theorem rng_tak {W : World} {X : Nat} {gl tl : List Value} {d u : Value} (h : W.heap[X]? = some (.cells (xbl gl tl d u).toArray 39)) (hg : gl.length = 13) : W.rangeAt X 13 tl := by
  have := range_row (a := gl) (z := [d, u]) h
  rw [hg] at this
  exact this
set_option maxRecDepth 1000000 in
theorem fr211 (y : Nat → Value) : fr 211 y = #[y 0, y 1, y 2, y 3, y 4, y 5, y 6, y 7, y 8, y 9, y 10, y 11, y 12, y 13, y 14, y 15, y 16, y 17, y 18, y 19, y 20, y 21, y 22, y 23, y 24, y 25, y 26, y 27, y 28, y 29, y 30, y 31, y 32, y 33, y 34, y 35, y 36, y 37, y 38, y 39, y 40, y 41, y 42, y 43, y 44, y 45, y 46, y 47, y 48, y 49, y 50, y 51, y 52, y 53, y 54, y 55, y 56, y 57, y 58, y 59, y 60, y 61, y 62, y 63, y 64, y 65, y 66, y 67, y 68, y 69, y 70, y 71, y 72, y 73, y 74, y 75, y 76, y 77, y 78, y 79, y 80, y 81, y 82, y 83, y 84, y 85, y 86, y 87, y 88, y 89, y 90, y 91, y 92, y 93, y 94, y 95, y 96, y 97, y 98, y 99, y 100, y 101, y 102, y 103, y 104, y 105, y 106, y 107, y 108, y 109, y 110, y 111, y 112, y 113, y 114, y 115, y 116, y 117, y 118, y 119, y 120, y 121, y 122, y 123, y 124, y 125, y 126, y 127, y 128, y 129, y 130, y 131, y 132, y 133, y 134, y 135, y 136, y 137, y 138, y 139, y 140, y 141, y 142, y 143, y 144, y 145, y 146, y 147, y 148, y 149, y 150, y 151, y 152, y 153, y 154, y 155, y 156, y 157, y 158, y 159, y 160, y 161, y 162, y 163, y 164, y 165, y 166, y 167, y 168, y 169, y 170, y 171, y 172, y 173, y 174, y 175, y 176, y 177, y 178, y 179, y 180, y 181, y 182, y 183, y 184, y 185, y 186, y 187, y 188, y 189, y 190, y 191, y 192, y 193, y 194, y 195, y 196, y 197, y 198, y 199, y 200, y 201, y 202, y 203, y 204, y 205, y 206, y 207, y 208, y 209, y 210] := rfl
end Go.Proofs.Ytopmamgdfngdoaa
