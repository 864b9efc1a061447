/- locator: the shortest polynomial that the syndromes run by. -/
import Derived.Test.YtendgihkjibbaaaSynS
import Derived.Test.YtendgihkjibbaaaAtDst
import Derived.Laws.CopyOwn
namespace Go.Proofs.Ytendgihkjibbaaa
set_option linter.unusedVariables false
open Go.RowKit

def padm (l : List Nat) (m : Nat) : List Nat := l ++ List.replicate (m - l.length) 0
def offw (l s : List Nat) (r n : Nat) : Nat := xsum (fun i => if i ≤ r then Gf.mul (nth l i) (nth s (r - i)) else 0) n
def nextw (l b : List Nat) (off : Nat) : List Nat := addTo (padm l (max l.length b.length)) b off 0 b.length
/-- one round of locator -/
def lstep (s : List Nat) (nh r : Nat) (st : List Nat × List Nat × Nat) : List Nat × List Nat × Nat :=
  if offw st.1 s r st.1.length = 0 then (st.1, 0 :: st.2.1, st.2.2)
  else if 2 * st.2.2 ≤ r + nh then (nextw st.1 (0 :: st.2.1) (offw st.1 s r st.1.length), st.1.map (fun c => Gf.mul c (Gf.inv (offw st.1 s r st.1.length))), r + 1 + nh - st.2.2)
  else (nextw st.1 (0 :: st.2.1) (offw st.1 s r st.1.length), 0 :: st.2.1, st.2.2)
def hlo (hs : List Nat) : List Nat := hs.foldl tms [1]
/-- k rounds -/
def loc (s hs : List Nat) : Nat → List Nat × List Nat × Nat
  | 0 => (hlo hs, hlo hs, hs.length)
  | k + 1 => lstep s hs.length (hs.length + k) (loc s hs k)

theorem hlo_snoc (hs : List Nat) (x : Nat) : hlo (hs ++ [x]) = tms (hlo hs) x := by simp [hlo]
theorem hlo_len_aux : ∀ (hs l : List Nat), (hs.foldl tms l).length = l.length + hs.length
  | [], _ => rfl
  | h :: hs, l => by rw [List.foldl_cons, hlo_len_aux hs, tms_len, List.length_cons]; omega
theorem hlo_len (hs : List Nat) : (hlo hs).length = hs.length + 1 := by rw [hlo, hlo_len_aux]; simp; omega
theorem hlo_all_aux : ∀ (hs l : List Nat), AllB hs → AllB l → AllB (hs.foldl tms l)
  | [], _, _, h => h
  | h :: hs, l, hh, hl => hlo_all_aux hs _ (fun y hy => hh y (List.mem_cons_of_mem _ hy)) (tms_all hl (hh h List.mem_cons_self))
theorem hlo_all {hs : List Nat} (h : AllB hs) : AllB (hlo hs) := hlo_all_aux hs [1] h (fun x hx => by simp at hx; omega)
theorem padm_len (l : List Nat) (m : Nat) (h : l.length ≤ m) : (padm l m).length = m := by simp [padm]; omega
theorem padm_all {l : List Nat} (h : AllB l) (m : Nat) : AllB (padm l m) := fun y hy => by
  rcases List.mem_append.1 hy with h1 | h1
  · exact h y h1
  · rw [List.mem_replicate] at h1; omega
theorem offw_lt {l s : List Nat} (hl : AllB l) (r n : Nat) : offw l s r n < 256 := by
  induction n with
  | zero => exact (by decide : (0 : Nat) < 256)
  | succ n ih =>
    refine Gf.xor_lt ih ?_
    show (if n ≤ r then _ else _) < 256
    split
    · exact Gf.mul_lt _ _ (nth_lt hl _)
    · decide
theorem nextw_len (l b : List Nat) (off : Nat) : (nextw l b off).length = max l.length b.length := by rw [nextw, addTo_len, padm_len _ _ (by omega)]
theorem cons_all {b : List Nat} (h : AllB b) : AllB (0 :: b) := fun y hy => by
  rcases List.mem_cons.1 hy with h1 | h1
  · omega
  · exact h y h1
theorem nextw_all {l b : List Nat} {off : Nat} (hl : AllB l) (ho : off < 256) : AllB (nextw l b off) := addTo_all (padm_all hl _) ho _
/-- what holds of the state -/
structure LokS (nh k : Nat) (st : List Nat × List Nat × Nat) : Prop where
  l1 : 1 ≤ st.1.length
  ll : st.1.length ≤ nh + k + 1
  bl : st.2.1.length ≤ nh + k + 1
  la : AllB st.1
  ba : AllB st.2.1
  lg : st.2.2 ≤ 2 * nh + k
theorem lok {s hs : List Nat} (hh : AllB hs) : ∀ k, LokS hs.length k (loc s hs k)
  | 0 => ⟨by rw [loc, hlo_len]; omega, by rw [loc, hlo_len]; omega, by rw [loc, hlo_len]; omega, hlo_all hh, hlo_all hh, by show hs.length ≤ _; omega⟩
  | k + 1 => by
    have h := lok (s := s) hh k
    show LokS _ _ (lstep s hs.length (hs.length + k) (loc s hs k))
    unfold lstep
    split
    · exact ⟨h.l1, by have := h.ll; show (loc s hs k).1.length ≤ _; omega, by have := h.bl; show (0 :: _).length ≤ _; rw [List.length_cons]; omega, h.la, cons_all h.ba, by have := h.lg; show (loc s hs k).2.2 ≤ _; omega⟩
    · split
      · refine ⟨?_, ?_, ?_, nextw_all h.la (offw_lt h.la _ _), ?_, ?_⟩
        · show 1 ≤ (nextw _ _ _).length
          rw [nextw_len]; have := h.l1; omega
        · show (nextw _ _ _).length ≤ _
          rw [nextw_len, List.length_cons]; have := h.ll; have := h.bl; omega
        · show (List.map _ _).length ≤ _
          rw [List.length_map]; have := h.ll; omega
        · intro y hy
          obtain ⟨c, hc, rfl⟩ := List.mem_map.1 hy
          exact Gf.mul_lt _ _ (h.la c hc)
        · show _ - _ ≤ _
          omega
      · refine ⟨?_, ?_, ?_, nextw_all h.la (offw_lt h.la _ _), cons_all h.ba, ?_⟩
        · show 1 ≤ (nextw _ _ _).length
          rw [nextw_len]; have := h.l1; omega
        · show (nextw _ _ _).length ≤ _
          rw [nextw_len, List.length_cons]; have := h.ll; have := h.bl; omega
        · show (0 :: _).length ≤ _
          rw [List.length_cons]; have := h.bl; omega
        · have := h.lg
          show (loc s hs k).2.2 ≤ _
          omega
theorem splice_padm (l : List Nat) (m : Nat) (h : l.length ≤ m) : splice (vb (List.replicate m 0)) 0 (vb l) = vb (padm l m) := by
  unfold splice padm
  rw [List.take_zero, List.nil_append, vb_len, Nat.zero_add, vb_append]
  congr 1
  simp [vb, List.drop_replicate]
theorem vb_arr_set (r : List Nat) (i x : Nat) : (vb r).toArray.setIfInBounds i (.int .u8 (x : Int)) = (vb (r.set i x)).toArray := by
  rw [List.setIfInBounds_toArray, vb_set]

set_option maxRecDepth 100000 in
set_option maxHeartbeats 4000000 in
theorem loc_ok (sa ha : Option Addr) (sn sc hn hc : Nat) (ss hs : List Nat) (w : World) (hS : Rd w sa sn sc (vb ss)) (hsb : AllB ss) (hH : Rd w ha hn hc (vb hs)) (hhb : AllB hs) (hsn : sn ≤ 64) (hhn : hn ≤ sn) :
    Calls Try.prog 15 #[.slice sa sn sc, .slice ha hn hc] w fun e w' => ∃ ao n c, e = .returned (.tuple #[.slice ao n c, .int .i64 ((loc ss hs (sn - hn)).2.2 : Nat)]) ∧
      Rd w' ao n c (vb (loc ss hs (sn - hn)).1) ∧ Below w.heap.size w w' := by
  have hsl : ss.length = sn := by have := hS.len; rwa [vb_len] at this
  have hhl : hs.length = hn := by have := hH.len; rwa [vb_len] at this
  have Hsl := hid hsl
  have Hhl := hid hhl
  have hlok : ∀ k, LokS hn k (loc ss hs k) := fun k => by rw [← Hhl.out]; exact lok hhb k
  clear hsl hhl
  obtain ⟨i0, hi, hz0, hz1, hz2⟩ := info_parts Try.info5
  go_enter Try.func15, Try.ntmps15
  go_wp2
  go_loopw [6, 25] (fun l i wr => ∃ (k n c : Nat) (ao : Option Addr), k ≤ hn ∧ i = .int .i64 k ∧ l = .slice ao n c ∧ n = k + 1 ∧ Rd wr ao n c (vb (hlo (hs.take k))) ∧ Below w.heap.size w wr) (fun _ i _ => hn - (intOf i).toNat)
  case atStart => exact ⟨0, 1, 1, _, by omega, rfl, rfl, rfl, rd_lit w 1, below_alloc _ _⟩
  case round =>
    obtain ⟨k, n, c, ao, hk, rfl, rfl, hnk, hl, hB⟩ := hrel
    by_cases hlt : k < hn
    · obtain ⟨b, off, rfl, hbl, hcell⟩ := (hH.below hB).cell k hlt
      have hx := nth_lt hhb k
      have Hn := hid (hlo_snoc (hs.take k) (nth hs k))
      have Hnk := hid hnk
      clear hnk
      rw [← take_snocN hs k (by rw [Hhl.out]; exact hlt)] at Hn
      have hlb := hlo_all (hhb.take k)
      have h4 : n ≤ 100000 := by have := Hnk.out; omega
      generalize hlo (hs.take k) = lo at *
      generalize nth hs k = x at *
      go_wp2_with fail
      refine (times_ok ao n c lo x _ hl hlb hx h4).mono ?_
      rintro e W1 ⟨g, c1, rfl, o1, B1⟩
      have hBB := hB.trans (B1.mono hB.size)
      go_wp2
      go_roundw
      case rel => exact ⟨k + 1, n + 1, c1, some ⟨g, 0, none⟩, by omega, by go_num, rfl, by have := Hnk.out; omega, by rw [Hn.out]; exact Rd.ofOwn o1, hBB⟩
      case measure => simp [intOf]; omega
    · obtain rfl : k = hn := by omega
      rw [show hs.take k = hs by rw [← Hhl.out, List.take_length]] at hl
      have Hnk := hid hnk
      clear hnk
      have h4 : n ≤ 100000 := by have := Hnk.out; omega
      go_wp2_with fail
      refine (clone_any ao n c _ _ hl (by omega)).mono ?_
      rintro e W1 ⟨qa, qc, rfl, o1, B1⟩
      have hBB := hB.trans (B1.mono hB.size)
      have hl1 := hl.below B1
      have hq1 := Rd.ofOwn o1
      clear hl o1
      go_wp2
      go_loopw [6, 9, 10, 11] (fun l b g r wq => ∃ (m : Nat) (ls bs : List Nat) (lg : Nat) (la ba : Option Addr) (ln lc bn bc : Nat), k + m ≤ sn ∧ r = .int .i64 ((k + m : Nat) : Int) ∧ g = .int .i64 (lg : Int) ∧ l = .slice la ln lc ∧ b = .slice ba bn bc ∧
        Hid (loc ss hs m = (ls, bs, lg)) ∧ Rd wq la ln lc (vb ls) ∧ Rd wq ba bn bc (vb bs) ∧ Below w.heap.size w wq) (fun _ _ _ r _ => sn - (intOf r).toNat)
      case atStart => exact ⟨0, hlo hs, hlo hs, k, ao, qa, n, c, n, qc, by omega, by simp, rfl, rfl, rfl, by show _ = _; rw [loc, Hhl.out], hl1, hq1, hBB⟩
      case round =>
        obtain ⟨m, ls, bs, lg, la, ba, ln, lc, bn, bc, hm, rfl, rfl, rfl, rfl, HL, hl, hb, hB⟩ := hrel
        clear hl1 hq1 hBB B1
        have hok := hlok m
        have hlen : ls.length = ln := by have := hl.len; rwa [vb_len] at this
        have hben : bs.length = bn := by have := hb.len; rwa [vb_len] at this
        obtain ⟨p1, p2, p3, hlb, hbb, p6⟩ := hok
        rw [HL.out] at p1 p2 p3 hlb hbb p6
        simp only [hlen, hben] at p1 p2 p3 p6
        have Hlen := hid hlen
        have Hben := hid hben
        clear hlen hben hlok
        by_cases hlt : k + m < sn
        · obtain ⟨r, hr⟩ : ∃ r, r = k + m := ⟨_, rfl⟩
          have Hr := hid hr
          have r0 : k ≤ r := by omega
          rw [← hr] at hlt p2 p3 ⊢
          have r1 : lg ≤ 200 := by omega
          have r2 : r ≤ 64 := by omega
          have r3 : k ≤ 64 := by omega
          have hlt' : (r : Int) < (sn : Int) := by omega
          clear hr hm p6
          have hm : r < sn := hlt
          go_wp2
          go_loopw [12, 47] (fun o i wq => ∃ q : Nat, q ≤ ln ∧ i = .int .i64 q ∧ o = .int .u8 (offw ls ss r q : Nat) ∧ wq = _) (fun _ i _ => ln - (intOf i).toNat)
          case atStart => exact ⟨0, by omega, rfl, rfl, rfl⟩
          case round =>
            obtain ⟨q, hq, rfl, rfl, rfl⟩ := hrel
            by_cases hlq : q < ln
            · obtain ⟨b, off, rfl, hbl, hcell⟩ := hl.cell q hlq
              have hx256 := nth_lt hlb q
              have hof := offw_lt (s := ss) hlb r q
              have Hst : Hid (offw ls ss r (q + 1) = offw ls ss r q ^^^ (if q ≤ r then Gf.mul (nth ls q) (nth ss (r - q)) else 0)) := rfl
              generalize offw ls ss r q = of' at *
              generalize ho' : offw ls ss r (q + 1) = o' at *
              have Ho' := hid ho'
              clear ho'
              by_cases hqr : q ≤ r
              · obtain ⟨b2, off2, rfl, hbl2, hcell2⟩ := (hS.below hB).cell (r - q) (by omega)
                have hy256 := nth_lt hsb (r - q)
                have Hst : Hid (o' = of' ^^^ Gf.mul (nth ls q) (nth ss (r - q))) := by have := Hst.out; rwa [if_pos hqr] at this
                generalize nth ls q = x at *
                generalize nth ss (r - q) = y at *
                have hmul := Gf.mul_lt x y hx256
                have e1 := u8_xor_nat of' (Gf.mul x y) hof hmul
                have s1 : IntKind.i64.wrap ((r : Int) - (q : Int)) = (r : Int) - (q : Int) := IntWalk.i64_in _ (by omega)
                have s2 : (0 : Int) ≤ (r : Int) - (q : Int) := by omega
                have s3 : (r : Int) - (q : Int) < (sn : Int) := by omega
                have s4 : ((r : Int) - (q : Int)).toNat = r - q := by omega
                go_wp2_with fail
                refine (mul_st x y _ hx256 hy256).mono ?_
                rintro e w' ⟨rfl, rfl⟩
                clear s1 s2 s3 s4
                go_wp2
                go_roundw
                case rel => exact ⟨q + 1, by omega, by go_num, by rw [Ho'.out, Hst.out], trivial⟩
                case measure => simp [intOf]; omega
              · have Hst : Hid (o' = of') := by have := Hst.out; rw [if_neg hqr, Nat.xor_zero] at this; exact this
                go_wp2
                go_roundw
                case rel => exact ⟨q + 1, by omega, by go_num, by rw [Ho'.out, Hst.out], trivial⟩
                case measure => simp [intOf]; omega
            · obtain rfl : q = ln := by omega
              have hof := offw_lt (s := ss) hlb r q
              have HO : Hid (offw ls ss r q = offw ls ss r ls.length) := by rw [Hlen.out]; rfl
              generalize offw ls ss r q = off at *
              have b1 := below_alloc wr (.cells #[.int .u8 ((0 : Nat) : Int)] 5)
              have hd0 := hid (rd_lit wr 0)
              go_wp2_with (at_builtin; refine hold ?_)
              unfold Hid
              refine wpList_append_rd rfl _ _ 22 rfl w.heap.size 5 i0 (.int .u8 0) 1 Try.underlying22 hi hz0 hz1 hz2 rfl (some ⟨wr.heap.size, 0, none⟩) 1 1 (vb [0]) rfl ?c1 ba bn bc (vb bs) rfl (hb.below b1) (vb_oneCell _) (by omega) (by unfold maxLen; omega) (by have := hB.size; simp; omega) ?_
              case c1 => exact World.ownsRow_lit (base := w.heap.size) (e := 5) (size := 1) wr #[.int .u8 ((0 : Nat) : Int)] 1 hB.size (by decide) rfl
              intro ga c2 W2 o2 gr B
              rw [← vb_append] at o2
              have B2 := (hB.alloc hB.size _).trans B
              have hb2 : Rd W2 ga (1 + bn) c2 (vb (0 :: bs)) := Rd.ofOwn o2
              clear o2
              have hne : ∀ b off, 0 < q → la = some ⟨b, off, none⟩ → b ≠ wr.heap.size := fun b off h0 h => by have := hl.block_lt h0 h; omega
              have hl2 := (hl.below b1).grown gr (fun b off h0 hh e => by cases e; exact hne _ _ h0 hh rfl)
              clear hne
              have Hb2 : Hid (Rd W2 ga (1 + bn) c2 (vb (0 :: bs))) := hb2
              clear hb2
              obtain ⟨bm, hbm⟩ : ∃ bm, bm = 1 + bn := ⟨_, rfl⟩
              have Hbm := hid hbm
              have p3' : bm ≤ r + 2 := by omega
              clear gr
              rw [← hbm] at Hb2 ⊢
              have hb2 := Hb2.out
              clear hbm Hb2
              have Hst : Hid (loc ss hs (m + 1) = lstep ss k r (ls, bs, lg)) := by
                show _ = _
                rw [loc, HL.out, Hhl.out, Hr.out]
              by_cases h0 : off = 0
              · have Hst : Hid (loc ss hs (m + 1) = (ls, 0 :: bs, lg)) := by
                  have h1 := Hst.out
                  rw [lstep] at h1
                  simp only [← HO.out] at h1
                  rwa [if_pos h0] at h1
                subst h0
                go_wp2
                go_roundw
                case rel => exact ⟨m + 1, ls, 0 :: bs, lg, la, ga, q, lc, bm, c2, by have := Hr.out; omega, by have := Hr.out; go_num, rfl, rfl, rfl, Hst, hl2, hb2, B2⟩
                case measure => have := Hr.out; simp [intOf]; omega
              · have h0' : ¬ ((off : Int) = 0) := by omega
                have hb3 := cons_all hbb
                have Hst : Hid (loc ss hs (m + 1) = if 2 * lg ≤ r + k then (nextw ls (0 :: bs) off, ls.map (fun c => Gf.mul c (Gf.inv off)), r + 1 + k - lg) else (nextw ls (0 :: bs) off, 0 :: bs, lg)) := by
                  have h1 := Hst.out
                  rw [lstep] at h1
                  simp only [← HO.out] at h1
                  rwa [if_neg h0] at h1
                have Hb' : Hid ((0 :: bs).length = bm) := by show _ = _; rw [List.length_cons, Hben.out, Nat.add_comm]; exact Hbm.out.symm
                generalize 0 :: bs = bs' at *
                clear hl hb b1 hd0 B hB
                rcases Nat.lt_or_ge q (bm) with hmx | hmx
                · have HN : Hid (nextw ls bs' off = addTo (padm ls (bm)) bs' off 0 (bm)) := by
                    show _ = _
                    rw [nextw, Hb'.out, Hlen.out, show max q (bm) = bm by omega]
                  have k1 := run_mkB (bm) (by omega)
                  obtain ⟨B, hB⟩ : ∃ B, B = W2.heap.size := ⟨_, rfl⟩
                  have HB := hid hB
                  clear hB
                  have B0 : Below B W2 (W2.alloc (.cells (madeCells #[.int .u8 0] (bm)) 5)) := by rw [HB.out]; exact below_alloc _ _
                  have hh0 : (W2.alloc (.cells (madeCells #[.int .u8 0] (bm)) 5)).heap[B]? = some (.cells (vb (List.replicate (bm) 0)).toArray 5) := by
                    rw [HB.out, ← made_cellsB]; exact heap_alloc_new W2 _
                  have nl : ∀ b off, 0 < q → la = some ⟨b, off, none⟩ → b ≠ B := fun b off h0 h => by have := hl2.block_lt h0 h; have := HB.out; omega
                  have nb : ∀ b off, 0 < bm → ga = some ⟨b, off, none⟩ → b ≠ B := fun b off h0 h => by have := hb2.block_lt h0 h; have := HB.out; omega
                  have wB : w.heap.size ≤ B := by have := B2.size; have := HB.out; omega
                  have toB : ∀ X, Below B W2 X → Below W2.heap.size W2 X := fun X h => by rw [HB.out] at h; exact h
                  have hl3 := hl2.below (toB _ B0)
                  have hp := hid (splice_padm ls (bm) (by rw [Hlen.out]; omega))
                  go_wp2_with (with_reducible refine at_dst 79 ?_)
                  rw [← HB.out]
                  generalize W2.alloc (.cells (madeCells #[.int .u8 0] (bm)) 5) = W3 at *
                  unfold Hid
                  refine wpList_copy_splice rfl _ _ 22 22 rfl 5 Try.underlying22 (by kernel_rfl) (some ⟨B, 0, none⟩) la (bm) (bm) q lc rfl rfl B 0 (vb (List.replicate (bm) 0)) 5 hh0 (vb ls) (by rw [vb_len, Hlen.out]; show _ = min _ _; omega) (fun h0 => ?cp) (by rw [vb_len, vb_len, Hlen.out, List.length_replicate]; omega) (vb_oneCell _) B W2 B0 (Nat.le_refl _) ?_
                  case cp =>
                    rw [vb_len, Hlen.out] at h0
                    obtain ⟨b, off, h1, _, hc⟩ := hl3.mem h0
                    exact ⟨rfl, _, h1, fun j v hj => by
                      have hjl := (List.getElem?_eq_some_iff.1 hj).1
                      rw [vb_len, Hlen.out] at hjl
                      rw [Addr.add_lit, hc j hjl]
                      exact hj⟩
                  intro V3 HG0 b2
                  have HG : V3.heap[B]? = some (.cells (vb (padm ls (bm))).toArray 5) := by have := HG0.out; rwa [hp.out] at this
                  have hl5 := hl2.below (toB _ b2)
                  have hb5 := hb2.below (toB _ b2)
                  have B3 : Below w.heap.size w V3 := B2.trans (b2.mono wB)
                  have hBV := row_lt HG
                  clear HG0 hl3 hh0 B0 hp k1 b2 toB hl2 hb2 B2 HB W3 W2
                  have Hsl := hid (padm_len ls (bm) (by rw [Hlen.out]; omega))
                  have Hsb := padm_all hlb (bm)
                  generalize (vb ls).length = cpn at *
                  generalize padm ls (bm) = sh at *
                  go_wp2
                  go_loopw [82] (fun i wr => ∃ j : Nat, j ≤ bm ∧ i = .int .i64 j ∧ wr.heap[B]? = some (.cells (vb (addTo sh bs' off 0 j)).toArray 5) ∧ V3.grownBy wr (some B)) (fun i _ => bm - (intOf i).toNat)
                  case atStart => exact ⟨0, by omega, rfl, HG, World.grownBy.refl _ _⟩
                  case round =>
                    obtain ⟨j, hj, rfl, hRq, hgq⟩ := hrel
                    have hal := addTo_len sh bs' off 0 j
                    rw [Hsl.out] at hal
                    by_cases hlj : j < bm
                    · obtain ⟨gb, goff, rfl, hgbl, hgcell⟩ := (hb5.grown hgq (fun b off h0 hh e => by cases e; exact nb _ _ h0 hh rfl)).cell j hlj
                      have hy256 := nth_lt hb3 j
                      have hall := addTo_all (qs := bs') (c := off) (at_ := 0) Hsb hof j
                      have hjm : j < bm := by omega
                      have hpc := cell_row8 hRq j (by omega)
                      have hpf := frozen_row hRq j
                      have hp256 := nth_lt hall j
                      have Hq := hid (set_row hRq j (.int .u8 ((nth (addTo sh bs' off 0 j) j ^^^ Gf.mul off (nth bs' j) : Nat) : Int)) (vb_arr_set _ _ _))
                      have Hst : Hid (addTo sh bs' off 0 (j + 1) = (addTo sh bs' off 0 j).set j (nth (addTo sh bs' off 0 j) j ^^^ Gf.mul off (nth bs' j))) := by
                        show (addTo sh bs' off 0 j).set (0 + j) (nth (addTo sh bs' off 0 j) (0 + j) ^^^ Gf.mul off (nth bs' j)) = _
                        rw [Nat.zero_add]
                      generalize nth (addTo sh bs' off 0 j) j = x at *
                      generalize nth bs' j = y at *
                      have hm := Gf.mul_lt off y hof
                      have s5 := u8_xor_nat x (Gf.mul off y) (by omega) (by omega)
                      have hal := hid hal
                      go_wp2
                      refine wp_region_still_tail 9 (by kernel_rfl) (by kernel_rfl) ?_
                      simp only [List.take_succ_cons, List.take_zero, List.drop_succ_cons, List.drop_zero]
                      repeat still_step
                      still_call (mul_st off y _ (by omega) (by omega))
                      repeat still_step
                      refine wpStill_nil ?_
                      change wpList _ _ _ _ _ wr.drew
                      go_wp2
                      go_roundw
                      case rel => exact ⟨j + 1, by omega, by go_num, by rw [Hst.out]; exact Hq.out.1, grownBy_trans (grownBy_trans hgq Hq.out.2) (grownBy_drew _ _)⟩
                      case measure => simp [intOf]; omega
                    · obtain rfl : bm = j := by omega
                      have hal := hid hal
                      have Bw : Below w.heap.size w wr := B3.grown hgq B3.size (fun k e => by cases e; exact wB)
                      have hnr : Rd wr (some ⟨B, 0, none⟩) (bm) (bm) (vb (addTo sh bs' off 0 (bm))) := Rd.ofOwn (own_of_heap (B := B) hRq (by rw [vb_len, hal.out]) (Nat.le_refl _) (by unfold maxLen; omega))
                      rw [← HN.out] at hnr
                      have hl6 := hl5.grown hgq (fun b off h0 hh e => by cases e; exact nl _ _ h0 hh rfl)
                      have hb6 := hb5.grown hgq (fun b off h0 hh e => by cases e; exact nb _ _ h0 hh rfl)
                      clear hl5 hb5 hgq hRq hal HG Hsl Hsb HN B3
                      generalize nextw ls bs' off = nx at *
                      by_cases hlg : 2 * lg ≤ r + k
                      · have Hst : Hid (loc ss hs (m + 1) = (nx, ls.map (fun c => Gf.mul c (Gf.inv off)), r + 1 + k - lg)) := by have h1 := Hst.out; rwa [if_pos hlg] at h1
                        go_wp2
                        have hz : decide (2 * (lg : Int) ≤ (r : Int) + (k : Int)) = true := by simp; omega
                        rw [hz]
                        clear hz
                        obtain ⟨V4, rfl⟩ : ∃ V, V = wr := ⟨_, rfl⟩
                        go_loopw [9, 113] (fun b i wq => ∃ (j jc : Nat) (ja : Option Addr), j ≤ q ∧ i = .int .i64 j ∧ b = .slice ja j jc ∧ wq.ownsRow V4.heap.size 5 1 (.slice ja j jc) j (vb ((ls.take j).map (fun c => Gf.mul c (Gf.inv off)))) ∧ Below V4.heap.size V4 wq) (fun _ i _ => q - (intOf i).toNat)
                        case atStart => exact ⟨0, 0, none, by omega, rfl, rfl, World.ownsRow_nil _ _ _ _, Below.refl _ _⟩
                        case round =>
                          obtain ⟨j, jc, ja, hj, rfl, rfl, ho, hBj⟩ := hrel
                          by_cases hlj : j < q
                          · obtain ⟨b, off', rfl, hbl, hcell⟩ := (hl6.below hBj).cell j hlj
                            have hy256 := nth_lt hlb j
                            have hdl := Gf.mul_lt (nth ls j) (Gf.inv off) hy256
                            have Hnx : Hid ((ls.take (j + 1)).map (fun c => Gf.mul c (Gf.inv off)) = (ls.take j).map (fun c => Gf.mul c (Gf.inv off)) ++ [Gf.mul (nth ls j) (Gf.inv off)]) := by
                              show _ = _
                              rw [take_snocN ls j (by rw [Hlen.out]; exact hlj), List.map_append]
                              rfl
                            have hdv := div_st (nth ls j) off wr hy256 hof h0
                            generalize hl' : (ls.take (j + 1)).map (fun c => Gf.mul c (Gf.inv off)) = l' at *
                            have Hl' := hid hl'
                            clear hl'
                            generalize (ls.take j).map (fun c => Gf.mul c (Gf.inv off)) = lj at *
                            generalize Gf.mul (nth ls j) (Gf.inv off) = d at *
                            generalize nth ls j = y at *
                            go_wp2_with fail
                            refine hdv.mono ?_
                            rintro e w' ⟨rfl, rfl⟩
                            have b1 := below_alloc w' (.cells #[.int .u8 (d : Int)] 5)
                            have hrd := rd_lit w' d
                            go_wp2_with (at_builtin; refine hold ?_)
                            unfold Hid
                            refine wpList_append_rd rfl _ _ 22 rfl V4.heap.size 5 i0 (.int .u8 0) 1 Try.underlying22 hi hz0 hz1 hz2 rfl ja j jc _ rfl (ownsRow_below ho b1) (some ⟨w'.heap.size, 0, none⟩) 1 1 (vb [d]) rfl hrd (vb_oneCell _) (by omega) (by unfold maxLen; omega) (by have := hBj.size; simp; omega) ?_
                            intro gq cq W5 o5 gr Bx
                            rw [← vb_append] at o5
                            have B5 := (hBj.alloc hBj.size _).trans Bx
                            clear gr Bx b1 hrd ho
                            go_wp2
                            go_roundw
                            case rel => exact ⟨j + 1, cq, gq, by omega, by go_num, rfl, by rw [Hl'.out, Hnx.out]; exact o5, B5⟩
                            case measure => simp [intOf]; omega
                          · obtain rfl : j = q := by omega
                            rw [show ls.take j = ls by rw [← Hlen.out, List.take_length]] at ho
                            have hbn := Rd.ofOwn ho
                            have hnr2 := hnr.below hBj
                            have Bw2 := Bw.trans (hBj.mono Bw.size)
                            clear ho hnr
                            go_wp2
                            go_roundw
                            case rel => exact ⟨m + 1, nx, _, r + 1 + k - lg, some ⟨B, 0, none⟩, ja, bm, bm, j, jc, by have := Hr.out; omega, by have := Hr.out; go_num, by go_num, rfl, rfl, Hst, hnr2, hbn, Bw2⟩
                            case measure => have := Hr.out; simp [intOf]; omega
                      · have Hst : Hid (loc ss hs (m + 1) = (nx, bs', lg)) := by have h1 := Hst.out; rwa [if_neg hlg] at h1
                        go_wp2
                        go_roundw
                        case rel => exact ⟨m + 1, nx, bs', lg, some ⟨B, 0, none⟩, ga, bm, bm, bm, c2, by have := Hr.out; omega, by have := Hr.out; go_num, rfl, rfl, rfl, Hst, hnr, hb6, Bw⟩
                        case measure => have := Hr.out; simp [intOf]; omega
                · have HN : Hid (nextw ls bs' off = addTo (padm ls (q)) bs' off 0 (bm)) := by
                    show _ = _
                    rw [nextw, Hb'.out, Hlen.out, show max q (bm) = q by omega]
                  have k1 := run_mkB (q) (by omega)
                  obtain ⟨B, hB⟩ : ∃ B, B = W2.heap.size := ⟨_, rfl⟩
                  have HB := hid hB
                  clear hB
                  have B0 : Below B W2 (W2.alloc (.cells (madeCells #[.int .u8 0] (q)) 5)) := by rw [HB.out]; exact below_alloc _ _
                  have hh0 : (W2.alloc (.cells (madeCells #[.int .u8 0] (q)) 5)).heap[B]? = some (.cells (vb (List.replicate (q) 0)).toArray 5) := by
                    rw [HB.out, ← made_cellsB]; exact heap_alloc_new W2 _
                  have nl : ∀ b off, 0 < q → la = some ⟨b, off, none⟩ → b ≠ B := fun b off h0 h => by have := hl2.block_lt h0 h; have := HB.out; omega
                  have nb : ∀ b off, 0 < bm → ga = some ⟨b, off, none⟩ → b ≠ B := fun b off h0 h => by have := hb2.block_lt h0 h; have := HB.out; omega
                  have wB : w.heap.size ≤ B := by have := B2.size; have := HB.out; omega
                  have toB : ∀ X, Below B W2 X → Below W2.heap.size W2 X := fun X h => by rw [HB.out] at h; exact h
                  have hl3 := hl2.below (toB _ B0)
                  have hp := hid (splice_padm ls (q) (by rw [Hlen.out]; omega))
                  go_wp2_with (with_reducible refine at_dst 79 ?_)
                  rw [← HB.out]
                  generalize W2.alloc (.cells (madeCells #[.int .u8 0] (q)) 5) = W3 at *
                  unfold Hid
                  refine wpList_copy_splice rfl _ _ 22 22 rfl 5 Try.underlying22 (by kernel_rfl) (some ⟨B, 0, none⟩) la (q) (q) q lc rfl rfl B 0 (vb (List.replicate (q) 0)) 5 hh0 (vb ls) (by rw [vb_len, Hlen.out]; show _ = min _ _; omega) (fun h0 => ?cp) (by rw [vb_len, vb_len, Hlen.out, List.length_replicate]; omega) (vb_oneCell _) B W2 B0 (Nat.le_refl _) ?_
                  case cp =>
                    rw [vb_len, Hlen.out] at h0
                    obtain ⟨b, off, h1, _, hc⟩ := hl3.mem h0
                    exact ⟨rfl, _, h1, fun j v hj => by
                      have hjl := (List.getElem?_eq_some_iff.1 hj).1
                      rw [vb_len, Hlen.out] at hjl
                      rw [Addr.add_lit, hc j hjl]
                      exact hj⟩
                  intro V3 HG0 b2
                  have HG : V3.heap[B]? = some (.cells (vb (padm ls (q))).toArray 5) := by have := HG0.out; rwa [hp.out] at this
                  have hl5 := hl2.below (toB _ b2)
                  have hb5 := hb2.below (toB _ b2)
                  have B3 : Below w.heap.size w V3 := B2.trans (b2.mono wB)
                  have hBV := row_lt HG
                  clear HG0 hl3 hh0 B0 hp k1 b2 toB hl2 hb2 B2 HB W3 W2
                  have Hsl := hid (padm_len ls (q) (by rw [Hlen.out]; omega))
                  have Hsb := padm_all hlb (q)
                  generalize (vb ls).length = cpn at *
                  generalize padm ls (q) = sh at *
                  go_wp2
                  go_loopw [82] (fun i wr => ∃ j : Nat, j ≤ bm ∧ i = .int .i64 j ∧ wr.heap[B]? = some (.cells (vb (addTo sh bs' off 0 j)).toArray 5) ∧ V3.grownBy wr (some B)) (fun i _ => bm - (intOf i).toNat)
                  case atStart => exact ⟨0, by omega, rfl, HG, World.grownBy.refl _ _⟩
                  case round =>
                    obtain ⟨j, hj, rfl, hRq, hgq⟩ := hrel
                    have hal := addTo_len sh bs' off 0 j
                    rw [Hsl.out] at hal
                    by_cases hlj : j < bm
                    · obtain ⟨gb, goff, rfl, hgbl, hgcell⟩ := (hb5.grown hgq (fun b off h0 hh e => by cases e; exact nb _ _ h0 hh rfl)).cell j hlj
                      have hy256 := nth_lt hb3 j
                      have hall := addTo_all (qs := bs') (c := off) (at_ := 0) Hsb hof j
                      have hjm : j < q := by omega
                      have hpc := cell_row8 hRq j (by omega)
                      have hpf := frozen_row hRq j
                      have hp256 := nth_lt hall j
                      have Hq := hid (set_row hRq j (.int .u8 ((nth (addTo sh bs' off 0 j) j ^^^ Gf.mul off (nth bs' j) : Nat) : Int)) (vb_arr_set _ _ _))
                      have Hst : Hid (addTo sh bs' off 0 (j + 1) = (addTo sh bs' off 0 j).set j (nth (addTo sh bs' off 0 j) j ^^^ Gf.mul off (nth bs' j))) := by
                        show (addTo sh bs' off 0 j).set (0 + j) (nth (addTo sh bs' off 0 j) (0 + j) ^^^ Gf.mul off (nth bs' j)) = _
                        rw [Nat.zero_add]
                      generalize nth (addTo sh bs' off 0 j) j = x at *
                      generalize nth bs' j = y at *
                      have hm := Gf.mul_lt off y hof
                      have s5 := u8_xor_nat x (Gf.mul off y) (by omega) (by omega)
                      have hal := hid hal
                      go_wp2
                      refine wp_region_still_tail 9 (by kernel_rfl) (by kernel_rfl) ?_
                      simp only [List.take_succ_cons, List.take_zero, List.drop_succ_cons, List.drop_zero]
                      repeat still_step
                      still_call (mul_st off y _ (by omega) (by omega))
                      repeat still_step
                      refine wpStill_nil ?_
                      change wpList _ _ _ _ _ wr.drew
                      go_wp2
                      go_roundw
                      case rel => exact ⟨j + 1, by omega, by go_num, by rw [Hst.out]; exact Hq.out.1, grownBy_trans (grownBy_trans hgq Hq.out.2) (grownBy_drew _ _)⟩
                      case measure => simp [intOf]; omega
                    · obtain rfl : bm = j := by omega
                      have hal := hid hal
                      have Bw : Below w.heap.size w wr := B3.grown hgq B3.size (fun k e => by cases e; exact wB)
                      have hnr : Rd wr (some ⟨B, 0, none⟩) (q) (q) (vb (addTo sh bs' off 0 (bm))) := Rd.ofOwn (own_of_heap (B := B) hRq (by rw [vb_len, hal.out]) (Nat.le_refl _) (by unfold maxLen; omega))
                      rw [← HN.out] at hnr
                      have hl6 := hl5.grown hgq (fun b off h0 hh e => by cases e; exact nl _ _ h0 hh rfl)
                      have hb6 := hb5.grown hgq (fun b off h0 hh e => by cases e; exact nb _ _ h0 hh rfl)
                      clear hl5 hb5 hgq hRq hal HG Hsl Hsb HN B3
                      generalize nextw ls bs' off = nx at *
                      by_cases hlg : 2 * lg ≤ r + k
                      · have Hst : Hid (loc ss hs (m + 1) = (nx, ls.map (fun c => Gf.mul c (Gf.inv off)), r + 1 + k - lg)) := by have h1 := Hst.out; rwa [if_pos hlg] at h1
                        go_wp2
                        have hz : decide (2 * (lg : Int) ≤ (r : Int) + (k : Int)) = true := by simp; omega
                        rw [hz]
                        clear hz
                        obtain ⟨V4, rfl⟩ : ∃ V, V = wr := ⟨_, rfl⟩
                        go_loopw [9, 113] (fun b i wq => ∃ (j jc : Nat) (ja : Option Addr), j ≤ q ∧ i = .int .i64 j ∧ b = .slice ja j jc ∧ wq.ownsRow V4.heap.size 5 1 (.slice ja j jc) j (vb ((ls.take j).map (fun c => Gf.mul c (Gf.inv off)))) ∧ Below V4.heap.size V4 wq) (fun _ i _ => q - (intOf i).toNat)
                        case atStart => exact ⟨0, 0, none, by omega, rfl, rfl, World.ownsRow_nil _ _ _ _, Below.refl _ _⟩
                        case round =>
                          obtain ⟨j, jc, ja, hj, rfl, rfl, ho, hBj⟩ := hrel
                          by_cases hlj : j < q
                          · obtain ⟨b, off', rfl, hbl, hcell⟩ := (hl6.below hBj).cell j hlj
                            have hy256 := nth_lt hlb j
                            have hdl := Gf.mul_lt (nth ls j) (Gf.inv off) hy256
                            have Hnx : Hid ((ls.take (j + 1)).map (fun c => Gf.mul c (Gf.inv off)) = (ls.take j).map (fun c => Gf.mul c (Gf.inv off)) ++ [Gf.mul (nth ls j) (Gf.inv off)]) := by
                              show _ = _
                              rw [take_snocN ls j (by rw [Hlen.out]; exact hlj), List.map_append]
                              rfl
                            have hdv := div_st (nth ls j) off wr hy256 hof h0
                            generalize hl' : (ls.take (j + 1)).map (fun c => Gf.mul c (Gf.inv off)) = l' at *
                            have Hl' := hid hl'
                            clear hl'
                            generalize (ls.take j).map (fun c => Gf.mul c (Gf.inv off)) = lj at *
                            generalize Gf.mul (nth ls j) (Gf.inv off) = d at *
                            generalize nth ls j = y at *
                            go_wp2_with fail
                            refine hdv.mono ?_
                            rintro e w' ⟨rfl, rfl⟩
                            have b1 := below_alloc w' (.cells #[.int .u8 (d : Int)] 5)
                            have hrd := rd_lit w' d
                            go_wp2_with (at_builtin; refine hold ?_)
                            unfold Hid
                            refine wpList_append_rd rfl _ _ 22 rfl V4.heap.size 5 i0 (.int .u8 0) 1 Try.underlying22 hi hz0 hz1 hz2 rfl ja j jc _ rfl (ownsRow_below ho b1) (some ⟨w'.heap.size, 0, none⟩) 1 1 (vb [d]) rfl hrd (vb_oneCell _) (by omega) (by unfold maxLen; omega) (by have := hBj.size; simp; omega) ?_
                            intro gq cq W5 o5 gr Bx
                            rw [← vb_append] at o5
                            have B5 := (hBj.alloc hBj.size _).trans Bx
                            clear gr Bx b1 hrd ho
                            go_wp2
                            go_roundw
                            case rel => exact ⟨j + 1, cq, gq, by omega, by go_num, rfl, by rw [Hl'.out, Hnx.out]; exact o5, B5⟩
                            case measure => simp [intOf]; omega
                          · obtain rfl : j = q := by omega
                            rw [show ls.take j = ls by rw [← Hlen.out, List.take_length]] at ho
                            have hbn := Rd.ofOwn ho
                            have hnr2 := hnr.below hBj
                            have Bw2 := Bw.trans (hBj.mono Bw.size)
                            clear ho hnr
                            go_wp2
                            go_roundw
                            case rel => exact ⟨m + 1, nx, _, r + 1 + k - lg, some ⟨B, 0, none⟩, ja, j, j, j, jc, by have := Hr.out; omega, by have := Hr.out; go_num, by go_num, rfl, rfl, Hst, hnr2, hbn, Bw2⟩
                            case measure => have := Hr.out; simp [intOf]; omega
                      · have Hst : Hid (loc ss hs (m + 1) = (nx, bs', lg)) := by have h1 := Hst.out; rwa [if_neg hlg] at h1
                        go_wp2
                        go_roundw
                        case rel => exact ⟨m + 1, nx, bs', lg, some ⟨B, 0, none⟩, ga, q, q, bm, c2, by have := Hr.out; omega, by have := Hr.out; go_num, rfl, rfl, rfl, Hst, hnr, hb6, Bw⟩
                        case measure => have := Hr.out; simp [intOf]; omega
        · obtain rfl : k + m = sn := by omega
          go_wp2
          go_ret2
          rw [HL.out]
          exact ⟨la, ln, lc, rfl, hl, hB⟩
end Go.Proofs.Ytendgihkjibbaaa
