/- copy of elements of several cells each. -/
import Derived.Laws.CopyOwn
import Derived.WalkKit
import Derived.Test.YtopmamgdfngdoaaWhole16
import Derived.Laws.MakeOwn
namespace Go.Proofs.Ytopmamgdfngdoaa
set_option linter.unusedVariables false
open Go.RowKit

theorem run_copy_wide {P : Program} (w : World) (dT sT ty elem : TypeId) (g o dLen dCap k n : Nat) (a : Addr) (sLen sCap : Nat) (cur : Array Value) (t : TypeId) (cs : List Value)
    (hu : P.underlying dT = some (.slice elem)) (hs : (P.info? elem).map (·.size) = some k)
    (hg : w.heap[g]? = some (.cells cur t (0, 0))) (hn : n = Nat.min sLen dLen) (hc : cs.length = n * k)
    (hsrc : ∀ j v, cs[j]? = some v → w.cell? (a.add j) = some v) (hfit : o + cs.length ≤ cur.size) (h1 : ∀ v ∈ cs, v.oneCell' = true) :
    (Builtin.copy_ #[dT, sT] ty #[.slice (some ⟨g, o, none⟩) dLen dCap, .slice (some a) sLen sCap]).run P w =
      .ok (goInt n) (w.setRow g (cur.toList.take o ++ cs ++ cur.toList.drop (o + cs.length)).toArray) := by
  have hl := run_loadCells_list (P := P) w a cs hsrc
  have hst := run_storeCells_at P g o t cs 0 cur w hg (by simpa using hfit) h1
  rw [Nat.add_zero] at hst
  cases hq : P.info? elem with
  | none => simp [hq] at hs
  | some i =>
    have hi : i.size = k := by simpa [hq] using hs
    rw [hc] at hl
    simp [Builtin.copy_, run_underlying hu, Builtin.lenOf, Builtin.firstCells, sizeOf, typeInfo, hq, hi, ← hn, hl, hst]
theorem wp_copy_wide {P : Program} {w : World} {o : Oper} {a : Act} {K : Act → World → Prop} {Q : Exit → Act → World → Prop} (d s : Operand) (dT sT : TypeId)
    (ho : o.op = .call { callee := .builtin .copy, args := #[d, s], argTypes := #[dT, sT] }) (elem : TypeId) (k n : Nat) (hu : P.underlying dT = some (.slice elem)) (hsz : (P.info? elem).map (·.size) = some k)
    (g off dLen dCap : Nat) (ad : Addr) (sLen sCap : Nat) (hd : a.eval d = .slice (some ⟨g, off, none⟩) dLen dCap) (hs : a.eval s = .slice (some ad) sLen sCap)
    (cur : Array Value) (t : TypeId) (hg : w.heap[g]? = some (.cells cur t (0, 0))) (cs : List Value) (hn : n = Nat.min sLen dLen) (hc : cs.length = n * k)
    (hsrc : ∀ j v, cs[j]? = some v → w.cell? (ad.add j) = some v) (hfit : off + cs.length ≤ cur.size) (h1 : ∀ v ∈ cs, v.oneCell' = true)
    (h : K (a.put o.dst (goInt n)) (w.setRow g (cur.toList.take off ++ cs ++ cur.toList.drop (off + cs.length)).toArray)) : o.wp P a w K Q := by
  have hrun := run_copy_wide (P := P) w dT sT o.type elem g off dLen dCap k n ad sLen sCap cur t cs hu hsz hg hn hc hsrc hfit h1
  unfold Oper.wp
  simp [execOp, ho, resolve, invoke, builtin, hd, hs, hrun, Result.andThen]
  show K _ _
  simpa using h
theorem wpList_copy_wide {P : Program} {w : World} {ops : Array Oper} {rest : List Oper} {o : Oper} {a : Act} {Q : Exit → Act → World → Prop} (hgd : o.guard = none) (d s : Operand) (dT sT : TypeId)
    (ho : o.op = .call { callee := .builtin .copy, args := #[d, s], argTypes := #[dT, sT] }) (elem : TypeId) (k n : Nat) (hu : P.underlying dT = some (.slice elem)) (hsz : (P.info? elem).map (·.size) = some k)
    (g off dLen dCap : Nat) (ad : Addr) (sLen sCap : Nat) (hd : a.eval d = .slice (some ⟨g, off, none⟩) dLen dCap) (hs : a.eval s = .slice (some ad) sLen sCap)
    (cur : Array Value) (t : TypeId) (hg : w.heap[g]? = some (.cells cur t (0, 0))) (cs : List Value) (hn : n = Nat.min sLen dLen) (hc : cs.length = n * k)
    (hsrc : ∀ j v, cs[j]? = some v → w.cell? (ad.add j) = some v) (hfit : off + cs.length ≤ cur.size) (h1 : ∀ v ∈ cs, v.oneCell' = true)
    (h : wpList P ops Q rest (a.put o.dst (goInt n)) (w.setRow g (cur.toList.take off ++ cs ++ cur.toList.drop (off + cs.length)).toArray)) : wpList P ops Q (o :: rest) a w := by
  refine wpList_plain hgd fun K hK => ?_
  exact wp_copy_wide d s dT sT ho elem k n hu hsz g off dLen dCap ad sLen sCap hd hs cur t hg cs hn hc hsrc hfit h1 (hK _ _ h)
end Go.Proofs.Ytopmamgdfngdoaa
/- deliver: a piece is laid: the bytes. -/
namespace Go.Proofs.Ytopmamgdfngdoaa
set_option linter.unusedVariables false
open Go.RowKit

set_option maxRecDepth 1000000 in
theorem fr119 (y : Nat → Value) : fr 119 y = #[y 0, y 1, y 2, y 3, y 4, y 5, y 6, y 7, y 8, y 9, y 10, y 11, y 12, y 13, y 14, y 15, y 16, y 17, y 18, y 19, y 20, y 21, y 22, y 23, y 24, y 25, y 26, y 27, y 28, y 29, y 30, y 31, y 32, y 33, y 34, y 35, y 36, y 37, y 38, y 39, y 40, y 41, y 42, y 43, y 44, y 45, y 46, y 47, y 48, y 49, y 50, y 51, y 52, y 53, y 54, y 55, y 56, y 57, y 58, y 59, y 60, y 61, y 62, y 63, y 64, y 65, y 66, y 67, y 68, y 69, y 70, y 71, y 72, y 73, y 74, y 75, y 76, y 77, y 78, y 79, y 80, y 81, y 82, y 83, y 84, y 85, y 86, y 87, y 88, y 89, y 90, y 91, y 92, y 93, y 94, y 95, y 96, y 97, y 98, y 99, y 100, y 101, y 102, y 103, y 104, y 105, y 106, y 107, y 108, y 109, y 110, y 111, y 112, y 113, y 114, y 115, y 116, y 117, y 118] := rfl
set_option maxRecDepth 1000000 in
theorem run_mk22 (n : Nat) (hn : n ≤ 70000) (u : World) : (Instr.makeSlice 22 (.int .i64 (n : Int)) (.int .i64 (n : Int))).run Try.prog u =
    .ok (.slice (some ⟨u.heap.size, 0, none⟩) n n) (u.alloc (.cells (vb (List.replicate n 0)).toArray 5)) := by
  obtain ⟨i0, hi, hz0, hz1, hz2⟩ := info_parts Try.info5
  have h := run_makeSlice (P := Try.prog) u 22 5 i0 (.int .u8 0) Try.underlying22 hi hz0 .i64 .i64 (n : Int) (n : Int) (by omega) (Int.le_refl _) (by rw [hz1]; omega) (by rw [hz2]; omega) (by omega)
  rw [h, hz1, Nat.mul_one]
  have : (n : Int).toNat = n := rfl
  rw [this]
  have e : madeCells (Value.int .u8 0).cells n = (vb (List.replicate n 0)).toArray := by
    apply Array.toList_inj.1
    rw [show (Value.int .u8 0).cells = #[.int .u8 0] from rfl, toList_madeCells_one]
    simp [vb]
  rw [e]
set_option maxRecDepth 100000 in
theorem run_cutl (b off n c l : Nat) (h1 : l ≤ n) (w : World) : (Instr.sliceAt 22 (.slice (some ⟨b, off, none⟩) n c) (some (.int .i64 (l : Int))) none none).run Try.prog w = .ok (.slice (some ⟨b, if c = l then off else off + l, none⟩) (n - l) (c - l)) w := by
  have e1 : (l : Int) ≤ n := by omega
  simp [go_sem, e1, Try.underlying22]
  split <;> rfl
/-- the new file: of n bytes those in q -/
def NewF (W : World) (Y n : Nat) (q : Nat → Bool) (fl : List Nat) : Prop := W.heap[Y]? = some (.cells (vb (fileP n q fl)).toArray 5)
theorem NewF.below {W W' : World} {Y n : Nat} {q : Nat → Bool} {fl : List Nat} (h : NewF W Y n q fl) (hb : Below W.heap.size W W') : NewF W' Y n q fl := row_below h hb
def layI (D : DP) (w0 : World) (X Y n B : Nat) (hv : List Sp) (ha : Option Addr) (hc : Nat) (q : Nat → Bool) (v1 v6 : Value) (y : Nat → Value) (W : World) : Prop :=
  ∃ k, k ≤ hv.length ∧ y 0 = .pointer (some ⟨X, 0, none⟩) ∧ y 1 = v1 ∧ y 6 = v6 ∧ y 7 = .slice (some ⟨Y, 0, none⟩) n n ∧ y 36 = .slice ha hv.length hc ∧ y 37 = .int .i64 (hv.length : Int) ∧ y 38 = .int .i64 (k : Int) ∧
    NewF W Y n (fun i => q i || hasH (hv.take k) i) D.fl ∧ Below w0.heap.size w0 W
set_option maxRecDepth 1000000 in
set_option maxHeartbeats 8000000 in
theorem lay_loop1 (D : DP) (hD : DOk D) (w0 : World) (X B Y n : Nat) (t : TS) (A : TA) (o : List NV) (q : Nat → Bool) (v1 v6 : Value) (hT : TW D w0 X B t A o) (hr : Ris 0 t.hv) (ht : ∀ s ∈ t.hv, s.2 ≤ D.P.F) (hn : topH t.hv ≤ n) (hn2 : n ≤ D.P.F) (hln : t.hv.length ≤ 100000) (hY : w0.heap.size ≤ Y) :
    Tri Try.prog 119 (pieceOf Try.f55 [1, 1, 1, 0, 1]) (fun z w => layI D w0 X Y n B t.hv A.ha A.hc q v1 v6 z w)
      (fun z w z' w' => z' 0 = .pointer (some ⟨X, 0, none⟩) ∧ z' 1 = v1 ∧ z' 6 = v6 ∧ z' 7 = .slice (some ⟨Y, 0, none⟩) n n ∧ NewF w' Y n (fun i => q i || hasH t.hv i) D.fl ∧ Below w0.heap.size w0 w') := by
  have hF := hD.P.F
  have hfl := hD.len
  rintro Q z w hI hQ
  have HQ := hid hQ
  have HT := hid hT
  have HRi := hid hr
  have HTo := hid ht
  clear hQ hT hr ht
  conv => arg 2; whnf
  refine wp_block ?_
  refine wp_loop_fr 119 (layI D w0 X Y n B t.hv A.ha A.hc q v1 v6) (fun y' _ => t.hv.length - (intOf (y' 38)).toNat) ⟨fr_size _ _, rfl, ?_⟩ ?_
  · obtain ⟨k, h1, h2, h3, h4, h5, h6, h7, h8, h9⟩ := hI
    exact ⟨k, h1, (fr_at 119 z 0 (by decide)).trans h2, (fr_at 119 z 1 (by decide)).trans h3, (fr_at 119 z 6 (by decide)).trans h4, (fr_at 119 z 7 (by decide)).trans h5, (fr_at 119 z 36 (by decide)).trans h6, (fr_at 119 z 37 (by decide)).trans h7, (fr_at 119 z 38 (by decide)).trans h8, h9⟩
  clear hI
  rintro z W ⟨k, hk, s0, s1, s6, s7, s36, s37, s38, hN, hB⟩
  have HN := hid hN
  have HB := hid hB
  clear hN hB
  rw [fr119]
  simp only [s0, s1, s6, s7, s36, s37, s38]
  clear s0 s1 s6 s7 s36 s37 s38
  obtain ⟨hn', hhn⟩ : ∃ hn', hn' = t.hv.length := ⟨_, rfl⟩
  rw [← hhn] at hk ⊢
  by_cases hlt : k < hn'
  · have d1 : decide ((k : Int) < (hn' : Int)) = true := decide_eq_true (by omega)
    have hkI : (k : Int) < (hn' : Int) := by omega
    have hk0' : (0 : Int) ≤ (k : Int) := by omega
    have hkt : ((k : Nat) : Int).toNat = k := rfl
    have HR := (HT.out.below HB.out).h
    rw [← hhn] at HR
    obtain ⟨b, off, s, hbb, hb, hs, c0, c1⟩ := HR.at_ k hlt
    have hs12 := HTo.out s (List.mem_of_getElem? hs)
    have hs3 := HRi.out.each s (List.mem_of_getElem? hs)
    have hs4 := HRi.out.top_ge s (List.mem_of_getElem? hs)
    have hsub := sub_fileT (fl := D.fl) (List.mem_of_getElem? hs) HRi.out (by omega)
    have HSk := hid hs
    have hrd := (HT.out.below HB.out).f.rd
    obtain ⟨sa, scc, hcut, hsr⟩ := cut_rd hrd s.1 s.2 (by omega) hs4
    have hsr' : Rd W sa (s.2 - s.1) scc (vb (sub D.fl s.1 s.2)) := by
      rw [← hsub]; exact hsr
    have HSr := hid hsr'
    clear hs hb HR hsub hrd hsr hsr'
    obtain ⟨sx, sy⟩ := s
    dsimp only at c0 c1 hs12 hs3 hs4 hcut HSr
    have Hcut := hid hcut
    clear hcut
    go_upto_block 1 with (fail)
    refine wp_block ?_
    refine wp_seq_k (fun K3 hK3 => ?_)
    go_wp2_with fail
    refine hK3.out _ _ ?_
    have bW := below_alloc W (.cells #[.int .i64 (sx : Int), .int .i64 (sy : Int)] 84)
    have AN := hid (heap_alloc_new W (.cells #[.int .i64 (sx : Int), .int .i64 (sy : Int)] 84))
    have B2 := hid (HB.out.trans (bW.mono HB.out.size))
    have T2 := hid (HT.out.below B2.out)
    have N2 := hid (HN.out.below bW)
    have S2 := hid (HSr.out.below bW)
    obtain ⟨P, hP⟩ : ∃ P, P = W.heap.size := ⟨_, rfl⟩
    rw [← hP] at AN ⊢
    clear bW HN HB HSr hP c0 c1
    generalize W.alloc (.cells #[.int .i64 (sx : Int), .int .i64 (sy : Int)] 84) = V at *
    have hdr := (Below.refl V.heap.size V).drew
    have AN3 := hid (row_below AN.out hdr)
    have B3 := hid (B2.out.trans (hdr.mono B2.out.size))
    have T3 := hid (HT.out.below B3.out)
    have N3 := hid (N2.out.below hdr)
    have S3 := hid (S2.out.below hdr)
    clear hdr AN B2 T2 N2 S2
    have hcY : ∀ w, (Instr.sliceAt 22 (.slice (some ⟨Y, 0, none⟩) n n) (some (.int .i64 (sx : Int))) (some (.int .i64 (sy : Int))) none).run Try.prog w = .ok (.slice (some ⟨Y, sx, none⟩) (sy - sx) (n - sx)) w := fun w => by
      rw [run_cutlh Y 0 n n sx sy (by omega) (by omega) w, if_neg (by omega), Nat.zero_add]
    refine wp_region_can 16 [] [0, 1, 2, 3, 4, 5, 6, 7, 8, 9, 10, 11, 12, 13, 14, 15] (fun u u' => u' = u) (fun _ => rfl) (fun _ _ _ h k => k.trans h) (by kernel_rfl) (by kernel_rfl) ?_
    simp only [List.map_cons, List.map_nil, List.contains_nil, List.getD_cons_zero, List.getD_cons_succ]
    generalize V.drew = U at *
    have p0 : U.cell? ⟨P, 0, none⟩ = some (.int .i64 (sx : Int)) := by rw [cell_of_row _ _ _ _ _ _ AN3.out]; rfl
    have p1 : U.cell? ⟨P, 1, none⟩ = some (.int .i64 (sy : Int)) := by rw [cell_of_row _ _ _ _ _ _ AN3.out]; rfl
    have x8 : U.cell? ⟨X, 8, none⟩ = some (.slice A.fa (topH t.hv) A.fc) := by rw [cell_of_row _ _ _ _ _ _ T3.out.bx]; rfl
    generalize topH t.hv = tn at *
    have hcut := Hcut.out
    clear Hcut
    iterate 16 (refine wpL_do rfl (fun w' hw' => (by cases hw'; go_simp; rfl)) ?_; simp only [Act.put, List.setIfInBounds_toArray, List.set_cons_succ, List.set_cons_zero])
    refine wpL_nil ?_
    simp only [List.drop_succ_cons, List.drop_zero]
    clear p0 p1 x8 hcut hcY T3
    have hsl : (vb (sub D.fl sx sy)).length = sy - sx := by rw [vb_len, sub_len (by omega)]
    refine wpList_copy_splice rfl _ _ 22 22 rfl 5 Try.underlying22 (by kernel_rfl) (some ⟨Y, sx, none⟩) sa (sy - sx) (n - sx) (sy - sx) scc rfl rfl Y sx (vb (fileP n (fun i => q i || hasH (t.hv.take k) i) D.fl)) 5 N3.out (vb (sub D.fl sx sy)) (by rw [hsl]; exact (Nat.min_self _).symm) (fun h0 => ?cp) (by rw [hsl, vb_len, fileP_len]; omega) (vb_oneCell _) w0.heap.size w0 B3.out hY ?_
    case cp =>
      obtain ⟨b', off', e, _, hc⟩ := S3.out.mem (by omega)
      subst e
      refine ⟨rfl, _, rfl, fun j v hj => ?_⟩
      have hjl := (List.getElem?_eq_some_iff.1 hj).1
      rw [hsl] at hjl
      rw [Addr.add_lit, hc j hjl, ← hj]
    intro V2 HG b2
    have HG2 : Hid (NewF V2 Y n (fun i => q i || hasH (t.hv.take (k + 1)) i) D.fl) := hid (by
      have h := HG.out
      rw [splice_vb, splice_fileP (by omega) (by omega) (by omega)] at h
      have e : (fileP n (fun i => q i || hasH (t.hv.take (k + 1)) i) D.fl) = fileP n (fun i => (q i || hasH (t.hv.take k) i) || decide (sx ≤ i ∧ i < sy)) D.fl := fileP_cong fun i _ => by
        rw [List.take_add_one, HSk.out]
        show (q i || hasH (t.hv.take k ++ [(sx, sy)]) i) = _
        rw [hasH_snoc, Bool.or_assoc]
      unfold NewF
      rw [e]
      exact h)
    have B4 := hid b2
    clear HG b2 hsl N3 S3 B3 AN3
    go_wp2_with fail
    unfold OnlyOn
    go_wp2_with fail
    refine ⟨rfl, rfl, ⟨k + 1, by omega, rfl, rfl, rfl, rfl, ?_, ?_, ?_, HG2.out, B4.out⟩, ?_⟩
    · rw [← hhn, hbb]; rfl
    · rw [← hhn]; rfl
    · show Value.int .i64 _ = Value.int .i64 _
      go_num
    · show hn' - (intOf (Value.int .i64 _)).toNat < _
      simp [intOf]
      omega
  · obtain rfl : k = hn' := by omega
    have d1 : decide ((k : Int) < (k : Int)) = false := decide_eq_false (by omega)
    go_wp2_with fail
    have e : t.hv.take k = t.hv := List.take_of_length_le (by omega)
    have h1 := HN.out
    rw [e] at h1
    exact q_fr (N := 119) HQ.out rfl ⟨rfl, rfl, rfl, rfl, h1, HB.out⟩
end Go.Proofs.Ytopmamgdfngdoaa
/- deliver: a piece is laid: the rows. -/
namespace Go.Proofs.Ytopmamgdfngdoaa
set_option linter.unusedVariables false
open Go.RowKit

theorem two_ok {W : World} {M : Nat} {a b c d : Value} (h : W.heap[M]? = some (.cells #[a, b] 84)) : ((W.setCell ⟨M, 0, none⟩ c).setCell ⟨M, 1, none⟩ d).heap[M]? = some (.cells #[c, d] 84) ∧ W.grownBy ((W.setCell ⟨M, 0, none⟩ c).setCell ⟨M, 1, none⟩ d) (some M) := by
  obtain ⟨m1, m2⟩ := set_row (cs' := #[c, b]) h 0 c rfl
  obtain ⟨k1, k2⟩ := set_row (cs' := #[c, d]) m1 1 d rfl
  exact ⟨k1, grownBy_trans m2 k2⟩
/-- what is being laid: a row at work, the rows ahead of it -/
structure LayS (W1 W : World) (M k F : Nat) (hv0 hv : List Sp) (m : Sp) (l : List Sp) (la : Option Addr) (lc : Nat) : Prop where
  bx : W.heap[M]? = some (.cells #[.int .i64 (m.1 : Int), .int .i64 (m.2 : Int)] 84)
  M0 : W1.heap.size ≤ M
  own : W.ownsRow W1.heap.size 84 2 (.slice la l.length lc) l.length (spv l)
  ne : (Value.slice la l.length lc).ownBlock ≠ some M
  eq : hv0 = l ++ layH m (hv.drop k)
  len : l.length ≤ k
  mF : m.1 ≤ F ∧ m.2 ≤ F
  blw : Below W1.heap.size W1 W
theorem LayS.below {W1 W W' : World} {M k F : Nat} {hv0 hv : List Sp} {m : Sp} {l : List Sp} {la : Option Addr} {lc : Nat} (h : LayS W1 W M k F hv0 hv m l la lc) (hb : Below W.heap.size W W') : LayS W1 W' M k F hv0 hv m l la lc :=
  ⟨row_below h.bx hb, h.M0, ownsRow_below h.own hb, h.ne, h.eq, h.len, h.mF, h.blw.trans (hb.mono h.blw.size)⟩
/-- the row at work is another -/
theorem LayS.turn {W1 W W' : World} {M k k' F : Nat} {hv0 hv : List Sp} {m m' : Sp} {l : List Sp} {la : Option Addr} {lc : Nat} (h : LayS W1 W M k F hv0 hv m l la lc) (hg : W.grownBy W' (some M)) (hn : W'.heap[M]? = some (.cells #[.int .i64 (m'.1 : Int), .int .i64 (m'.2 : Int)] 84)) (he : hv0 = l ++ layH m' (hv.drop k')) (hl : l.length ≤ k') (hF : m'.1 ≤ F ∧ m'.2 ≤ F) : LayS W1 W' M k' F hv0 hv m' l la lc :=
  ⟨hn, h.M0, h.own.kept hg (.inr h.ne), h.ne, he, hl, hF, h.blw.grown hg h.blw.size (fun j e => by cases e; exact h.M0)⟩
/-- a row goes behind the others -/
theorem LayS.app {W1 W W' : World} {M k F : Nat} {hv0 hv : List Sp} {m s : Sp} {l : List Sp} {la va : Option Addr} {lc vc : Nat} (h : LayS W1 W M k F hv0 hv m l la lc) (hown : W'.ownsRow W1.heap.size 84 2 (.slice va (l.length + 1) vc) (l.length + 1) (spv (l ++ [s]))) (hg : W.grownBy W' (Value.slice la l.length lc).ownBlock) (hat : (Value.slice va (l.length + 1) vc).ownBlock = (Value.slice la l.length lc).ownBlock ∨ (Value.slice va (l.length + 1) vc).ownBlock = some W.heap.size) :
    W'.heap[M]? = some (.cells #[.int .i64 (m.1 : Int), .int .i64 (m.2 : Int)] 84) ∧ (Value.slice va (l.length + 1) vc).ownBlock ≠ some M ∧ Below W1.heap.size W1 W' := by
  have hM := row_lt h.bx
  refine ⟨(hg.block M hM (fun e => h.ne e.symm)).trans h.bx, ?_, h.blw.grown hg h.blw.size (fun j e => (h.own.lt j e).1)⟩
  rcases hat with e | e
  · rw [e]; exact h.ne
  · rw [e]
    intro e2
    injection e2 with e2
    omega
def lay2I (W1 : World) (X M F n c : Nat) (ha : Option Addr) (hv0 hv : List Sp) (y : Nat → Value) (W : World) : Prop :=
  ∃ k m l la lc, k ≤ n ∧ y 0 = .pointer (some ⟨X, 0, none⟩) ∧ y 11 = .pointer (some ⟨M, 0, none⟩) ∧ y 10 = .slice la l.length lc ∧ y 72 = .slice ha n c ∧ y 73 = .int .i64 (n : Int) ∧ y 74 = .int .i64 (k : Int) ∧ LayS W1 W M k F hv0 hv m l la lc
set_option maxRecDepth 1000000 in
set_option maxHeartbeats 8000000 in
theorem lay_loop2 (D : DP) (hD : DOk D) (W1 : World) (X M n c : Nat) (ha : Option Addr) (hv0 hv : List Sp) (hn : n ≤ 100000) (hr : RdS W1 ha n c hv) (ht : ∀ s ∈ hv, s.1 ≤ D.P.F ∧ s.2 ≤ D.P.F) :
    Tri Try.prog 119 (pieceOf Try.f55 [1, 1, 1, 1, 1, 1, 1, 0, 1]) (fun z w => lay2I W1 X M D.P.F n c ha hv0 hv z w)
      (fun z w z' w' => z' 0 = .pointer (some ⟨X, 0, none⟩) ∧ z' 11 = .pointer (some ⟨M, 0, none⟩) ∧ ∃ m l la lc, z' 10 = .slice la l.length lc ∧ LayS W1 w' M n D.P.F hv0 hv m l la lc) := by
  obtain ⟨i0, hi, hz0, hz1, hz2⟩ := info_parts Try.info84
  have hF := hD.P.F
  rintro Q z w hI hQ
  have HQ := hid hQ
  have HR := hid hr
  have HTo := hid ht
  clear hQ hr ht
  conv => arg 2; whnf
  refine wp_block ?_
  refine wp_loop_fr 119 (lay2I W1 X M D.P.F n c ha hv0 hv) (fun y' _ => n - (intOf (y' 74)).toNat) ⟨fr_size _ _, rfl, ?_⟩ ?_
  · obtain ⟨k, m, l, la, lc, h1, h2, h3, h4, h5, h6, h7, h8⟩ := hI
    exact ⟨k, m, l, la, lc, h1, (fr_at 119 z 0 (by decide)).trans h2, (fr_at 119 z 11 (by decide)).trans h3, (fr_at 119 z 10 (by decide)).trans h4, (fr_at 119 z 72 (by decide)).trans h5, (fr_at 119 z 73 (by decide)).trans h6, (fr_at 119 z 74 (by decide)).trans h7, h8⟩
  clear hI
  rintro z W ⟨k, m, l, la, lc, hk, s0, s11, s10, s72, s73, s74, hS⟩
  have hll := hS.len
  have HS := hid hS
  clear hS
  rw [fr119]
  simp only [s0, s11, s10, s72, s73, s74]
  clear s0 s11 s10 s72 s73 s74
  by_cases hlt : k < n
  · have d1 : decide ((k : Int) < (n : Int)) = true := decide_eq_true (by omega)
    have hkI : (k : Int) < (n : Int) := by omega
    have hk0' : (0 : Int) ≤ (k : Int) := by omega
    have hkt : ((k : Nat) : Int).toNat = k := rfl
    obtain ⟨b, off, s, hbb, hb, hs, c0, c1⟩ := (HR.out.below HS.out.blw).at_ k hlt
    subst hbb
    have hs12 := HTo.out s (List.mem_of_getElem? hs)
    have HSk : Hid (hv.drop k = s :: hv.drop (k + 1)) := hid (by
      obtain ⟨h1, h2⟩ := List.getElem?_eq_some_iff.1 hs
      rw [← h2]
      exact List.drop_eq_getElem_cons h1)
    clear hs hb
    obtain ⟨sx, sy⟩ := s
    obtain ⟨mx, my⟩ := m
    dsimp only at c0 c1 hs12
    go_upto_block 3 with (fail)
    refine wp_block ?_
    refine wp_seq_k (fun K3 hK3 => ?_)
    go_wp2_with fail
    refine hK3.out _ _ ?_
    have bW := below_alloc W (.cells #[.int .i64 (sx : Int), .int .i64 (sy : Int)] 84)
    have AN := hid (heap_alloc_new W (.cells #[.int .i64 (sx : Int), .int .i64 (sy : Int)] 84))
    have S2 := hid (HS.out.below bW)
    have hSM : W.heap.size ≠ M := fun e => by have := row_lt HS.out.bx; omega
    have hSo : (Value.slice la l.length lc).ownBlock ≠ some W.heap.size := fun e => by have := (HS.out.own.lt _ e).2; omega
    obtain ⟨P, hP⟩ : ∃ P, P = W.heap.size := ⟨_, rfl⟩
    rw [← hP] at AN hSM hSo ⊢
    clear bW HS hP c0 c1
    generalize W.alloc (.cells #[.int .i64 (sx : Int), .int .i64 (sy : Int)] 84) = V at *
    refine wp_block ?_
    have hmF := S2.out.mF
    have p0 : V.cell? ⟨P, 0, none⟩ = some (.int .i64 (sx : Int)) := by rw [cell_of_row _ _ _ _ _ _ AN.out]; rfl
    have p1 : V.cell? ⟨P, 1, none⟩ = some (.int .i64 (sy : Int)) := by rw [cell_of_row _ _ _ _ _ _ AN.out]; rfl
    have m0 : V.cell? ⟨M, 0, none⟩ = some (.int .i64 (mx : Int)) := by rw [cell_of_row _ _ _ _ _ _ S2.out.bx]; rfl
    have m1 : V.cell? ⟨M, 1, none⟩ = some (.int .i64 (my : Int)) := by rw [cell_of_row _ _ _ _ _ _ S2.out.bx]; rfl
    have fz := frozen_row S2.out.bx
    by_cases hA : sy < mx
    · have d2 : decide ((sy : Int) < (mx : Int)) = true := decide_eq_true (by omega)
      have hAI : (sy : Int) < (mx : Int) := by omega
      refine wp_seq_k (fun K4 hK4 => ?_)
      go_wp2_with fail
      refine hK4.out _ _ ?_
      refine wp_cond_true rfl ?_
      have bN := below_alloc V (.cells #[.int .i64 (sx : Int), .int .i64 (sy : Int)] 84)
      have hnew : Hid (∀ (j : Nat) (u : Value), ([.int .i64 (sx : Int), .int .i64 (sy : Int)] : List Value)[j]? = some u → (V.alloc (.cells #[.int .i64 (sx : Int), .int .i64 (sy : Int)] 84)).cell? ((⟨V.heap.size, 0, none⟩ : Addr).add j) = some u) := new_cells V [.int .i64 (sx : Int), .int .i64 (sy : Int)] 84
      have S3 := hid (S2.out.below bN)
      have AN3 := hid (row_below AN.out bN)
      have HE : Hid (spv (l ++ [(sx, sy)]) = spv l ++ [.int .i64 (sx : Int), .int .i64 (sy : Int)]) := hid (spv_snoc _ _ _)
      have hV0 : W1.heap.size ≤ (V.alloc (.cells #[.int .i64 (sx : Int), .int .i64 (sy : Int)] 84)).heap.size := S3.out.blw.size
      clear bN S2 AN
      go_wp2_with (at_builtin; refine wpList_append_own_at _ rfl _ _ 26 rfl W1.heap.size 84 i0 _ 2 16 Try.underlying26 hi hz0 hz1 hz2 rfl (by decide) (.slice la l.length lc) l.length (spv l) rfl S3.out.own ⟨V.heap.size, 0, none⟩ 1 1 [.int .i64 (sx : Int), .int .i64 (sy : Int)] rfl rfl hnew.out (by simp [Value.oneCell']) (by unfold maxLen; omega) (by omega) hV0 ?_)
      intro v' V3 own4 g4 hnl hat
      obtain ⟨va, vc, rfl, _, _⟩ := own_slice own4
      rw [← HE.out] at own4
      have hat' : (Value.slice va (l.length + 1) vc).ownBlock = (Value.slice la l.length lc).ownBlock ∨ (Value.slice va (l.length + 1) vc).ownBlock = some (V.alloc (.cells #[.int .i64 (sx : Int), .int .i64 (sy : Int)] 84)).heap.size := by
        rcases hat with h | h
        · exact .inl h
        · right
          rw [h]
          simp
      obtain ⟨q1, q2, q3⟩ := S3.out.app own4 g4 hat'
      have Q1 := hid q1
      have Q3 := hid q3
      have Q4 := hid own4
      have P4 := hid (((g4.block P (row_lt AN3.out) (fun e => hSo e.symm)).trans AN3.out : V3.heap[P]? = _))
      have Q5 := hid (S3.out.len)
      have Q6 := hid (S3.out.eq)
      have Q7 := hid (S3.out.M0)
      clear q1 q3 own4 g4 hnl hat hat' HE hnew hV0 S3 AN3 p0 p1 m0 m1 fz
      go_wp2_with fail
      have hS4 : LayS W1 V3 M (k + 1) D.P.F hv0 hv (mx, my) (l ++ [(sx, sy)]) va vc := ⟨Q1.out, Q7.out, by rw [List.length_append]; exact Q4.out, by rw [List.length_append]; exact q2, by
        rw [Q6.out, HSk.out]
        conv => lhs; unfold layH
        rw [if_pos hA, List.append_assoc]
        rfl, by rw [List.length_append]; have := Q5.out; show l.length + 1 ≤ _; omega, hmF, Q3.out⟩
      refine ⟨rfl, rfl, ⟨k + 1, (mx, my), l ++ [(sx, sy)], va, vc, by omega, rfl, rfl, by rw [List.length_append]; rfl, rfl, rfl, ?_, hS4⟩, ?_⟩
      · show Value.int .i64 _ = Value.int .i64 _
        go_num
      · show n - (intOf (Value.int .i64 _)).toNat < _
        simp [intOf]
        omega
    · have d2 : decide ((sy : Int) < (mx : Int)) = false := decide_eq_false (by omega)
      have hAI : ¬ (sy : Int) < (mx : Int) := by omega
      have hAI2 : ¬ sy < mx := hA
      refine wp_seq_k (fun K4 hK4 => ?_)
      go_wp2_with fail
      refine hK4.out _ _ ?_
      refine wp_cond_false rfl ?_
      by_cases hC : my < sx
      · have d3 : decide ((my : Int) < (sx : Int)) = true := decide_eq_true (by omega)
        have hCI : (my : Int) < (sx : Int) := by omega
        refine wp_seq_k (fun K5 hK5 => ?_)
        go_wp2_with fail
        refine hK5.out _ _ ?_
        refine wp_cond_true rfl ?_
        refine wp_seq_k (fun K6 hK6 => ?_)
        have bN := below_alloc V (.cells #[.int .i64 (mx : Int), .int .i64 (my : Int)] 84)
        have hnew : Hid (∀ (j : Nat) (u : Value), ([.int .i64 (mx : Int), .int .i64 (my : Int)] : List Value)[j]? = some u → (V.alloc (.cells #[.int .i64 (mx : Int), .int .i64 (my : Int)] 84)).cell? ((⟨V.heap.size, 0, none⟩ : Addr).add j) = some u) := new_cells V [.int .i64 (mx : Int), .int .i64 (my : Int)] 84
        have S3 := hid (S2.out.below bN)
        have AN3 := hid (row_below AN.out bN)
        have HE : Hid (spv (l ++ [(mx, my)]) = spv l ++ [.int .i64 (mx : Int), .int .i64 (my : Int)]) := hid (spv_snoc _ _ _)
        have hV0 : W1.heap.size ≤ (V.alloc (.cells #[.int .i64 (mx : Int), .int .i64 (my : Int)] 84)).heap.size := S3.out.blw.size
        clear bN S2 AN
        go_wp2_with (at_builtin; refine wpList_append_own_at _ rfl _ _ 26 rfl W1.heap.size 84 i0 _ 2 16 Try.underlying26 hi hz0 hz1 hz2 rfl (by decide) (.slice la l.length lc) l.length (spv l) rfl S3.out.own ⟨V.heap.size, 0, none⟩ 1 1 [.int .i64 (mx : Int), .int .i64 (my : Int)] rfl rfl hnew.out (by simp [Value.oneCell']) (by unfold maxLen; omega) (by omega) hV0 ?_)
        intro v' V3 own4 g4 hnl hat
        obtain ⟨va, vc, rfl, _, _⟩ := own_slice own4
        rw [← HE.out] at own4
        have hat' : (Value.slice va (l.length + 1) vc).ownBlock = (Value.slice la l.length lc).ownBlock ∨ (Value.slice va (l.length + 1) vc).ownBlock = some (V.alloc (.cells #[.int .i64 (mx : Int), .int .i64 (my : Int)] 84)).heap.size := by
            rcases hat with h | h
            · exact .inl h
            · right
              rw [h]
              simp
        obtain ⟨q1, q2, q3⟩ := S3.out.app own4 g4 hat'
        have Q1 := hid q1
        have Q3 := hid q3
        have Q4 := hid own4
        have P4 := hid (((g4.block P (row_lt AN3.out) (fun e => hSo e.symm)).trans AN3.out : V3.heap[P]? = _))
        have Q5 := hid (S3.out.len)
        have Q6 := hid (S3.out.eq)
        have Q7 := hid (S3.out.M0)
        clear q1 q3 own4 g4 hnl hat hat' HE hnew hV0 S3 AN3 p0 p1 m0 m1 fz
        go_wp2_with fail
        refine hK6.out _ _ ?_
        have p0 : V3.cell? ⟨P, 0, none⟩ = some (.int .i64 (sx : Int)) := by rw [cell_of_row _ _ _ _ _ _ P4.out]; rfl
        have p1 : V3.cell? ⟨P, 1, none⟩ = some (.int .i64 (sy : Int)) := by rw [cell_of_row _ _ _ _ _ _ P4.out]; rfl
        have m0 : V3.cell? ⟨M, 0, none⟩ = some (.int .i64 (mx : Int)) := by rw [cell_of_row _ _ _ _ _ _ Q1.out]; rfl
        have m1 : V3.cell? ⟨M, 1, none⟩ = some (.int .i64 (my : Int)) := by rw [cell_of_row _ _ _ _ _ _ Q1.out]; rfl
        have fz := frozen_row Q1.out
        obtain ⟨t1, t2⟩ := two_ok (c := .int .i64 (sx : Int)) (d := .int .i64 (sy : Int)) Q1.out
        have hS4 : LayS W1 V3 M (k + 1) D.P.F hv0 hv (sx, sy) (l ++ [(mx, my)]) va vc → True := fun _ => trivial
        have hS5 : LayS W1 ((V3.setCell ⟨M, 0, none⟩ (.int .i64 (sx : Int))).setCell ⟨M, 1, none⟩ (.int .i64 (sy : Int))) M (k + 1) D.P.F hv0 hv (sx, sy) (l ++ [(mx, my)]) va vc := ⟨t1, Q7.out, by rw [List.length_append]; exact Q4.out.kept t2 (.inr q2), by rw [List.length_append]; exact q2, by
          rw [Q6.out, HSk.out]
          conv => lhs; unfold layH
          rw [if_neg hA, if_pos hC, List.append_assoc]
          rfl, by rw [List.length_append]; have := Q5.out; show l.length + 1 ≤ _; omega, hs12, Q3.out.grown t2 Q3.out.size (fun j e => by cases e; exact Q7.out)⟩
        have HS5 := hid hS5
        clear hS4 hS5 t1 t2 Q1 Q3 Q4 Q5 Q6 Q7 P4
        go_wp2_with fail
        refine ⟨rfl, rfl, ⟨k + 1, (sx, sy), l ++ [(mx, my)], va, vc, by omega, rfl, rfl, by rw [List.length_append]; rfl, rfl, rfl, ?_, HS5.out⟩, ?_⟩
        · show Value.int .i64 _ = Value.int .i64 _
          go_num
        · show n - (intOf (Value.int .i64 _)).toNat < _
          simp [intOf]
          omega
      · have d3 : decide ((my : Int) < (sx : Int)) = false := decide_eq_false (by omega)
        have hCI : ¬ (my : Int) < (sx : Int) := by omega
        have hCI2 : ¬ my < sx := hC
        refine wp_seq_k (fun K5 hK5 => ?_)
        go_wp2_with fail
        refine hK5.out _ _ ?_
        refine wp_cond_false rfl ?_
        have HS5 : Hid (∀ lo hi' : Nat, lo = min mx sx → hi' = max my sy → LayS W1 ((V.setCell ⟨M, 0, none⟩ (.int .i64 (lo : Int))).setCell ⟨M, 1, none⟩ (.int .i64 (hi' : Int))) M (k + 1) D.P.F hv0 hv (lo, hi') l la lc) := hid (fun lo hi' hlo hhi => by
          obtain ⟨t1, t2⟩ := two_ok (c := .int .i64 (lo : Int)) (d := .int .i64 (hi' : Int)) S2.out.bx
          refine S2.out.turn t2 t1 (by
            rw [S2.out.eq, HSk.out]
            conv => lhs; unfold layH
            rw [if_neg hA, if_neg hC, ← hlo, ← hhi]) (by have := S2.out.len; omega) (by show lo ≤ _ ∧ hi' ≤ _; omega))
        clear S2 AN
        go_wp2_with fail
        all_goals
          refine ⟨rfl, rfl, ⟨k + 1, (_, _), l, la, lc, by omega, rfl, rfl, rfl, rfl, rfl, ?_, HS5.out _ _ (by omega) (by omega)⟩, ?_⟩
          · show Value.int .i64 _ = Value.int .i64 _
            go_num
          · show n - (intOf (Value.int .i64 _)).toNat < _
            simp [intOf]
            omega
  · obtain rfl : k = n := by omega
    have d1 : decide ((k : Int) < (k : Int)) = false := decide_eq_false (by omega)
    go_wp2_with fail
    exact q_fr (N := 119) HQ.out rfl ⟨rfl, rfl, m, l, la, lc, rfl, HS.out⟩
end Go.Proofs.Ytopmamgdfngdoaa
/- deliver: a piece is laid (walk 55). -/
namespace Go.Proofs.Ytopmamgdfngdoaa
set_option linter.unusedVariables false
open Go.RowKit

set_option maxRecDepth 1000000 in
set_option maxHeartbeats 8000000 in
theorem lay_mk (X tn y fc : Nat) (fa : Option Addr) (h1 : tn ≤ 65536) (h2 : y ≤ 65536) :
    Tri Try.prog 119 (pieceOf Try.f55 [1, 0]) (fun z w => z 0 = .pointer (some ⟨X, 0, none⟩) ∧ z 6 = .int .i64 (y : Int) ∧ w.cell? ⟨X, 8, none⟩ = some (.slice fa tn fc))
      (fun z w z' w' => z' 0 = z 0 ∧ z' 1 = z 1 ∧ z' 2 = z 2 ∧ z' 6 = z 6 ∧ z' 7 = .slice (some ⟨w.heap.size, 0, none⟩) (max tn y) (max tn y) ∧ w' = w.alloc (.cells (vb (List.replicate (max tn y) 0)).toArray 5)) := by
  rintro Q z w ⟨s0, s6, c8⟩ hQ
  have HQ := hid hQ
  have S0 := hid s0
  have S6 := hid s6
  clear hQ
  conv => arg 2; whnf
  rw [fr119]
  simp only [s0, s6]
  clear s0 s6
  by_cases h : tn < y
  · have hm : max tn y = y := Nat.max_eq_right (by omega)
    have hI : (tn : Int) < (y : Int) := by omega
    have hmk := run_mk22 y (by omega)
    rw [hm] at HQ
    generalize hcs : (vb (List.replicate y 0)).toArray = cs at *
    have HC := hid hcs
    clear hcs
    go_wp2_with fail
    exact q_fr (N := 119) HQ.out rfl ⟨S0.out.symm, rfl, rfl, S6.out.symm, rfl, rfl⟩
  · have hm : max tn y = tn := Nat.max_eq_left (by omega)
    have hI : ¬ (tn : Int) < (y : Int) := by omega
    have hmk := run_mk22 tn (by omega)
    rw [hm] at HQ
    generalize hcs : (vb (List.replicate tn 0)).toArray = cs at *
    have HC := hid hcs
    clear hcs
    go_wp2_with fail
    exact q_fr (N := 119) HQ.out rfl ⟨S0.out.symm, rfl, rfl, S6.out.symm, rfl, rfl⟩
theorem NewF.cong {W : World} {Y n : Nat} {q q' : Nat → Bool} {fl : List Nat} (h : NewF W Y n q fl) (hq : ∀ i, q i = q' i) : NewF W Y n q' fl := by
  rw [← show q = q' from funext hq]
  exact h
theorem NewF.rdt {W : World} {Y n : Nat} {q : Nat → Bool} {fl : List Nat} (h : NewF W Y n q fl) (hn : n ≤ maxLen) : RdT 5 W (some ⟨Y, 0, none⟩) n n (vb (fileP n q fl)) := by
  refine ⟨⟨by rw [vb_len, fileP_len], Nat.le_refl _, hn, (fun e => by cases e), fun h0 => ⟨Y, 0, rfl, row_lt h, fun j hj => ?_⟩⟩, fun _ => ⟨Y, 0, _, rfl, h⟩⟩
  rw [cell_of_row _ _ _ _ _ _ h, Nat.zero_add]
  simp
structure LayR (D : DP) (W0 W : World) (X B x y : Nat) (t : TS) (A : TA) (o : List NV) (e : Ending) : Prop where
  he : e = .returned (.tuple #[])
  ex : ∃ ha hc fa fc, TW D W X B { t with hv := layH (x, y) t.hv } { A with ha := ha, hc := hc, fa := fa, fc := fc } o
  s : TwS W0 W B
  s60 : Stays 60 W0 W
set_option maxRecDepth 1000000 in
set_option maxHeartbeats 8000000 in
theorem lay_ok (D : DP) (hD : DOk D) (X B x y : Nat) (t : TS) (A : TA) (o : List NV) (da : Option Addr) (dc : Nat) (w : World) (hB : B ≤ X) (h : TW D w X B t A o) (hd : RdT 5 w da (y - x) dc (vb (sub D.fl x y))) (hxy : x < y) (hy : y ≤ D.P.F) (hr : Ris 0 t.hv) (ht : ∀ s ∈ t.hv, s.2 ≤ D.P.F) (hln : t.hv.length ≤ 90000) :
    Calls Try.prog 55 #[.pointer (some ⟨X, 0, none⟩), .int .i64 (x : Int), .slice da (y - x) dc] w fun e w' => LayR D w w' X B x y t A o e := by
  have hF := hD.P.F
  have hfl := hD.len
  have htn := topH_le ht
  have H := hid h
  have HRi := hid hr
  have HTo := hid ht
  have HD := hid hd
  have c8 : w.cell? ⟨X, 8, none⟩ = some (.slice A.fa (topH t.hv) A.fc) := by rw [cell_of_row _ _ _ _ _ _ h.bx]; rfl
  have a1 : IntKind.i64.wrap ((x : Int) + ((y - x : Nat) : Int)) = (y : Int) := by rw [IntWalk.i64_in _ (by omega)]; omega
  have a2 : (x : Int) + ((y - x : Nat) : Int) = (y : Int) := by omega
  obtain ⟨dn, hdn⟩ : ∃ dn, dn = y - x := ⟨_, rfl⟩
  rw [← hdn] at a1 a2 HD ⊢
  have HDn := hid hdn
  clear h hr ht hd hdn
  go_enter Try.func55, Try.ntmps55
  refine wp_seq_k (fun K0 hK0 => ?_)
  go_wp2_with fail
  refine hK0.out _ _ ?_
  clear a1 a2
  refine wp_seq_k (fun K1 hK1 => ?_)
  refine use_fr (N := 119) rfl ?_
  refine Tri.use (lay_mk X (topH t.hv) y A.fc A.fa (by omega) (by omega)) rfl ⟨rfl, rfl, c8⟩ ?_
  rintro y1 W ⟨e0, e1, e2, e6, e7, hW⟩
  obtain ⟨n, hn⟩ : ∃ n, n = max (topH t.hv) y := ⟨_, rfl⟩
  rw [← hn] at e7 hW
  have HNx := hid hn
  have hn1 : topH t.hv ≤ n := by omega
  have hn2 : y ≤ n := by omega
  have hn3 : n ≤ D.P.F := by omega
  clear hn
  have q0 : y1 0 = .pointer (some ⟨X, 0, none⟩) := e0
  have q1 : y1 1 = .int .i64 (x : Int) := e1
  have q2 : y1 2 = .slice da dn dc := e2
  have q6 : y1 6 = .int .i64 (y : Int) := e6
  have bW := below_alloc w (.cells (vb (List.replicate n 0)).toArray 5)
  have hN : NewF (w.alloc (.cells (vb (List.replicate n 0)).toArray 5)) w.heap.size n (fun _ => false) D.fl := by
    unfold NewF
    rw [fileP_none]
    exact heap_alloc_new w _
  rw [← hW] at bW hN
  obtain ⟨Y, hY⟩ : ∃ Y, Y = w.heap.size := ⟨_, rfl⟩
  have hY0 : w.heap.size ≤ Y := by omega
  rw [← hY] at hN e7
  have HN := hid hN
  have HB := hid bW
  have HD2 := hid (HD.out.below bW)
  clear e0 e1 e2 e6 hW bW hN hY c8 HD
  refine hK1.out _ _ ?_
  rw [fr119]
  simp only [q0, q1, q2, q6, e7]
  clear q0 q1 q2 q6 e7
  -- the piece is copied
  refine wp_seq_k (fun K2 hK2 => ?_)
  have hcut : ∀ w, (Instr.sliceAt 22 (.slice (some ⟨Y, 0, none⟩) n n) (some (.int .i64 (x : Int))) none none).run Try.prog w = .ok (.slice (some ⟨Y, x, none⟩) (n - x) (n - x)) w := fun w => by
    rw [run_cutl Y 0 n n x (by omega) w, if_neg (by omega), Nat.zero_add]
  go_wp2_with (with_reducible refine at_dst 31 ?_)
  unfold Hid
  have hsl : (vb (sub D.fl x y)).length = dn := by rw [vb_len, sub_len (by omega), HDn.out]
  refine wpList_copy_splice rfl _ _ 22 22 rfl 5 Try.underlying22 (by kernel_rfl) (some ⟨Y, x, none⟩) da (n - x) (n - x) dn dc rfl rfl Y x (vb (fileP n (fun _ => false) D.fl)) 5 HN.out (vb (sub D.fl x y)) (by rw [hsl]; exact (Nat.min_eq_left (by rw [HDn.out]; omega)).symm) (fun h0 => ?cp) (by rw [hsl, vb_len, fileP_len, HDn.out]; omega) (vb_oneCell _) w.heap.size w HB.out hY0 ?_
  case cp =>
    obtain ⟨b', off', e, _, hc⟩ := HD2.out.rd.mem (by omega)
    subst e
    refine ⟨rfl, _, rfl, fun j v hj => ?_⟩
    have hjl := (List.getElem?_eq_some_iff.1 hj).1
    rw [hsl] at hjl
    rw [Addr.add_lit, hc j hjl, ← hj]
  intro V HG b2
  have HG2 : Hid (NewF V Y n (fun i => decide (x ≤ i ∧ i < y)) D.fl) := hid (by
    have h := HG.out
    rw [splice_vb, splice_fileP (by omega) (by omega) (by omega)] at h
    unfold NewF
    rw [h]
    congr 5)
  have B4 := hid b2
  clear HG b2 HN HB HD2 hcut hsl
  go_wp2_with fail
  refine hK2.out _ _ ?_
  -- the rows' bytes
  refine wp_seq_k (fun K3 hK3 => ?_)
  refine wp_seq_k (fun K4 hK4 => ?_)
  have c7 : V.cell? ⟨X, 7, none⟩ = some (.slice A.ha t.hv.length A.hc) := by rw [cell_of_row _ _ _ _ _ _ (row_below H.out.bx B4.out)]; rfl
  obtain ⟨hl, hhl⟩ : ∃ hl, hl = t.hv.length := ⟨_, rfl⟩
  rw [← hhl] at c7
  have HHl := hid hhl
  have hhl0 : hl ≤ 90000 := by omega
  clear hhl
  go_wp2_with fail
  refine hK4.out _ _ ?_
  clear c7
  refine use_fr (N := 119) rfl ?_
  refine Tri.use (lay_loop1 D hD w X B Y n t A o (fun i => decide (x ≤ i ∧ i < y)) (.int .i64 (x : Int)) (.int .i64 (y : Int)) H.out HRi.out HTo.out (by omega) (by omega) (by omega) hY0) rfl ⟨0, Nat.zero_le _, rfl, rfl, rfl, rfl, by rw [← HHl.out]; rfl, by rw [← HHl.out]; rfl, rfl, ?_, B4.out⟩ ?_
  · refine HG2.out.cong fun i => ?_
    show decide _ = (decide _ || hasH [] i)
    rw [show hasH [] i = false from rfl, Bool.or_false]
  rintro y2 W2 ⟨q0, q1, q6, q7, hN2, hB2⟩
  have N2 := hid hN2
  have B2 := hid hB2
  clear hN2 hB2 HG2 B4
  refine hK3.out _ _ ?_
  rw [fr119]
  simp only [q0, q1, q6, q7]
  clear q0 q1 q6 q7
  -- the file is stored
  have T2 := hid (H.out.below B2.out)
  have x8 : W2.cell? ⟨X, 8, none⟩ = some (.slice A.fa (topH t.hv) A.fc) := by rw [cell_of_row _ _ _ _ _ _ T2.out.bx]; rfl
  have fz := frozen_row T2.out.bx 8
  refine wp_seq_k (fun K5 hK5 => ?_)
  generalize htn' : topH t.hv = tn at *
  have HTn := hid htn'
  clear htn'
  go_wp2_with fail
  refine hK5.out _ _ ?_
  clear x8 fz
  obtain ⟨m1, m2⟩ := set_row (cs' := (twc D t A t.hv.length (topH t.hv) o.length).setIfInBounds 8 (.slice (some ⟨Y, 0, none⟩) n n)) T2.out.bx 8 (.slice (some ⟨Y, 0, none⟩) n n) rfl
  have hYX : Y ≠ X := fun e => by have := row_lt H.out.bx; omega
  have hYX2 : (some X : Option Nat) ≠ some Y := fun e => hYX (by injection e with e; exact e.symm)
  have M1 := hid m1
  have s5 : Stays 5 W2 _ := Stays.ofSet m2 T2.out.bx (by decide)
  have s84 : Stays 84 W2 _ := Stays.ofSet m2 T2.out.bx (by decide)
  have N3 : Hid (NewF (W2.setCell ⟨X, 8, none⟩ (.slice (some ⟨Y, 0, none⟩) n n)) Y n (fun i => decide (x ≤ i ∧ i < y) || hasH t.hv i) D.fl) := hid (s5 _ _ N2.out)
  have R3 := hid (T2.out.h.stays s84)
  have O3 := hid (row_kept_own T2.out.bx T2.out.ow m2 (by decide))
  have V3 := hid (fun v hv => (T2.out.ns v hv).stays s5 s84)
  have S3 := hid (((TwS.refl w B).below (H.out.lt hB) B2.out).set hB T2.out.bx m2)
  have Q3 := hid ((Stays.ofBelow B2.out : Stays 60 w W2).trans (Stays.ofSet m2 T2.out.bx (by decide)))
  have hX3 := row_lt m1
  clear m1 m2 s5 s84 N2 T2 B2 H
  generalize W2.setCell ⟨X, 8, none⟩ (.slice (some ⟨Y, 0, none⟩) n n) = W3 at *
  -- the rows
  refine wp_seq_k (fun K6 hK6 => ?_)
  go_wp2_with fail
  refine hK6.out _ _ ?_
  refine wp_seq_k (fun K7 hK7 => ?_)
  go_wp2_with fail
  refine hK7.out _ _ ?_
  have bM := below_alloc W3 (.cells #[.int .i64 (x : Int), .int .i64 (y : Int)] 84)
  have AM := hid (heap_alloc_new W3 (.cells #[.int .i64 (x : Int), .int .i64 (y : Int)] 84))
  have BM := hid bM
  obtain ⟨M, hM⟩ : ∃ M, M = W3.heap.size := ⟨_, rfl⟩
  have hM0 : W3.heap.size ≤ M := by omega
  rw [← hM] at AM ⊢
  clear bM hM
  generalize W3.alloc (.cells #[.int .i64 (x : Int), .int .i64 (y : Int)] 84) = W4 at *
  have c7 : W4.cell? ⟨X, 7, none⟩ = some (.slice A.ha hl A.hc) := by rw [cell_of_row _ _ _ _ _ _ (row_below M1.out BM.out), HHl.out]; rfl
  refine wp_seq_k (fun K8 hK8 => ?_)
  refine wp_seq_k (fun K9 hK9 => ?_)
  go_wp2_with fail
  refine hK9.out _ _ ?_
  clear c7
  refine use_fr (N := 119) rfl ?_
  refine Tri.use (lay_loop2 D hD W3 X M hl A.hc A.ha (layH (x, y) t.hv) t.hv (by omega) (by rw [HHl.out]; exact R3.out) (fun s hs => ⟨by have := HTo.out s hs; have := HRi.out.each s hs; omega, HTo.out s hs⟩)) rfl ⟨0, (x, y), [], none, 0, Nat.zero_le _, rfl, rfl, rfl, rfl, rfl, rfl, ⟨AM.out, hM0, World.ownsRow_nil _ _ _ _, (by intro e; cases e), rfl, Nat.le_refl _, ⟨by show x ≤ _; omega, hy⟩, BM.out⟩⟩ ?_
  rintro y3 W5 ⟨q0, q11, m, l, la, lc, q10, hS⟩
  have HS := hid hS
  clear hS AM BM
  refine hK8.out _ _ ?_
  rw [fr119]
  simp only [q0, q11, q10]
  clear q0 q11 q10
  have hll := HS.out.len
  obtain ⟨mx, my⟩ := m
  have m0 : W5.cell? ⟨M, 0, none⟩ = some (.int .i64 (mx : Int)) := by rw [cell_of_row _ _ _ _ _ _ HS.out.bx]; rfl
  have m1 : W5.cell? ⟨M, 1, none⟩ = some (.int .i64 (my : Int)) := by rw [cell_of_row _ _ _ _ _ _ HS.out.bx]; rfl
  have bN := below_alloc W5 (.cells #[.int .i64 (mx : Int), .int .i64 (my : Int)] 84)
  have hnew : Hid (∀ (j : Nat) (u : Value), ([.int .i64 (mx : Int), .int .i64 (my : Int)] : List Value)[j]? = some u → (W5.alloc (.cells #[.int .i64 (mx : Int), .int .i64 (my : Int)] 84)).cell? ((⟨W5.heap.size, 0, none⟩ : Addr).add j) = some u) := new_cells W5 [.int .i64 (mx : Int), .int .i64 (my : Int)] 84
  have S6 := hid (HS.out.below bN)
  have HE : Hid (spv (l ++ [(mx, my)]) = spv l ++ [.int .i64 (mx : Int), .int .i64 (my : Int)]) := hid (spv_snoc _ _ _)
  have hV0 : W3.heap.size ≤ (W5.alloc (.cells #[.int .i64 (mx : Int), .int .i64 (my : Int)] 84)).heap.size := S6.out.blw.size
  obtain ⟨i0, hi, hz0, hz1, hz2⟩ := info_parts Try.info84
  clear bN HS
  go_wp2_with (at_builtin; refine wpList_append_own_at _ rfl _ _ 26 rfl W3.heap.size 84 i0 _ 2 16 Try.underlying26 hi hz0 hz1 hz2 rfl (by decide) (.slice la l.length lc) l.length (spv l) rfl S6.out.own ⟨W5.heap.size, 0, none⟩ 1 1 [.int .i64 (mx : Int), .int .i64 (my : Int)] rfl rfl hnew.out (by simp [Value.oneCell']) (by unfold maxLen; omega) (by omega) hV0 ?_)
  intro v' W6 own4 g4 hnl hat
  obtain ⟨va, vc, rfl, _, _⟩ := own_slice own4
  rw [← HE.out] at own4
  have eqR : l ++ [(mx, my)] = layH (x, y) t.hv := by
    rw [S6.out.eq, HHl.out, List.drop_length]
    rfl
  have hlenR : l.length + 1 = (layH (x, y) t.hv).length := by rw [← eqR, List.length_append]; rfl
  have B6 := S6.out.blw.grown g4 S6.out.blw.size (fun j e => (S6.out.own.lt j e).1)
  have O6 := hid own4
  rw [eqR] at O6
  have M6 := hid (row_below M1.out B6)
  have N6 := hid (N3.out.below B6)
  have P6 := hid (ownsRow_below O3.out B6)
  have V6 := hid (fun v hv => (V3.out v hv).below B6)
  have S7 := hid (S3.out.below (Nat.le_trans hB (Nat.le_of_lt hX3)) B6)
  have Q7 := hid (Q3.out.trans (Stays.ofBelow B6))
  have EqR := hid eqR
  have HlR := hid hlenR
  clear own4 g4 hnl hat HE hnew hV0 S6 m0 m1 B6 eqR hlenR M1 N3 O3 V3 S3 R3
  have x7 : W6.cell? ⟨X, 7, none⟩ = some (.slice A.ha hl A.hc) := by rw [cell_of_row _ _ _ _ _ _ M6.out, HHl.out]; rfl
  have fz := frozen_row M6.out 7
  go_wp2_with fail
  go_end0
  obtain ⟨r1, r2⟩ := set_row (cs' := twc D { t with hv := layH (x, y) t.hv } { A with ha := va, hc := vc, fa := some ⟨Y, 0, none⟩, fc := n } (l.length + 1) n o.length) M6.out 7 (.slice va (l.length + 1) vc) rfl
  have htop : topH (layH (x, y) t.hv) = n := by rw [topH_lay HRi.out hxy, HTn.out, HNx.out]
  have s5 : Stays 5 W6 _ := Stays.ofSet r2 M6.out (by decide)
  have s84 : Stays 84 W6 _ := Stays.ofSet r2 M6.out (by decide)
  refine ⟨rfl, ⟨va, vc, some ⟨Y, 0, none⟩, n, ⟨?_, ?_, ?_, row_kept_own M6.out P6.out r2 (by decide), fun v hv => (V6.out v hv).stays s5 s84⟩⟩, S7.out.set hB M6.out r2, Q7.out.trans (Stays.ofSet r2 M6.out (by decide))⟩
  · rw [htop, ← HlR.out]
    exact r1
  · dsimp only
    rw [fileT_lay HRi.out hxy, htop]
    show RdT 5 _ _ n n (vb (fileP (max (topH t.hv) y) _ D.fl))
    rw [HTn.out, ← HNx.out]
    exact (N6.out.rdt (by unfold maxLen; omega)).stays s5
  · dsimp only
    rw [← HlR.out]
    exact (RdS.ofOwn O6.out).stays s84
end Go.Proofs.Ytopmamgdfngdoaa
