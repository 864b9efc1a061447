/- Decode: what it computes, told as a function. -/
import Derived.Test.YtendgihkjibbaaaLocS
import Derived.Test.YtendgihkjibbaaaWorthS
import Derived.Test.YtendgihkjibbaaaEncS
import Derived.Test.YtendgihkjibbaaaAtS
namespace Go.Proofs.Ytendgihkjibbaaa
set_option linter.unusedVariables false
open Go.RowKit

/-- the inverse of a place's power -/
def xin (n p : Nat) : Nat := Gf.gp (((p : Int) + 1 - (n : Int)) % 255).toNat
def pws (n : Nat) (hs : List Nat) : List Nat := hs.map fun h => Gf.gp (n - 1 - h)
/-- one place of Decode: what came out so far, the places, how many zeros -/
def dstep (s l : List Nat) (n p : Nat) (st : List Nat × List Nat × Nat) : List Nat × List Nat × Nat :=
  if ev l (xin n p) = 0 then
    if wth s l (xin n p) = 0 then (st.1, st.2.1, st.2.2 + 1)
    else (st.1.set p (nth st.1 p ^^^ wth s l (xin n p)), st.2.1 ++ [p], st.2.2 + 1)
  else st
def dk (s l ws : List Nat) : Nat → List Nat × List Nat × Nat
  | 0 => (ws, [], 0)
  | p + 1 => dstep s l ws.length p (dk s l ws p)
def dec (ws : List Nat) (c : Nat) (hs : List Nat) : Option (List Nat × List Nat) :=
  if nought c ws = true then some (ws.take (ws.length - c), [])
  else
    let t := loc (synd ws c) (pws ws.length hs) (c - hs.length)
    if c + hs.length < 2 * t.2.2 then none
    else
      let r := dk (synd ws c) t.1 ws ws.length
      if r.2.2 = t.2.2 then (if nought c r.1 = true then some (r.1.take (ws.length - c), r.2.1) else none) else none
/-- what Decode answers -/
def decAns (r : Option (List Nat × List Nat)) (m : Nat) (e : Ending) (w : World) : Prop :=
  match r with
  | none => e = .returned (.tuple #[.slice none 0 0, .slice none 0 0, .int .i64 5])
  | some r => ∃ ao k bo bk, e = .returned (.tuple #[.slice ao m k, .slice bo r.2.length bk, .int .i64 0]) ∧ Rd w ao m k (vb r.1) ∧ Rd w bo r.2.length bk (vi r.2)

theorem dstep_len {s l : List Nat} {n p : Nat} {st : List Nat × List Nat × Nat} : (dstep s l n p st).1.length = st.1.length := by
  unfold dstep
  split
  · split
    · rfl
    · show (List.set _ _ _).length = _
      rw [List.length_set]
  · rfl
theorem dk_len (s l ws : List Nat) : ∀ p, (dk s l ws p).1.length = ws.length
  | 0 => rfl
  | p + 1 => by rw [dk, dstep_len, dk_len s l ws p]
theorem dk_cnt (s l ws : List Nat) : ∀ p, (dk s l ws p).2.2 ≤ p ∧ (dk s l ws p).2.1.length ≤ (dk s l ws p).2.2
  | 0 => ⟨Nat.le_refl _, Nat.le_refl _⟩
  | p + 1 => by
    have := dk_cnt s l ws p
    rw [dk]
    generalize dk s l ws p = st at *
    obtain ⟨o, a, z⟩ := st
    simp only at this
    unfold dstep
    split
    · split
      · simp only; omega
      · simp only [List.length_append, List.length_singleton]; omega
    · simp only; omega
theorem all_set {l : List Nat} (h : AllB l) (i : Nat) {x : Nat} (hx : x < 256) : AllB (l.set i x) := fun y hy => by
  rcases List.mem_or_eq_of_mem_set hy with h1 | h1
  · exact h y h1
  · omega
theorem dk_all {s l ws : List Nat} (hl : AllB l) (hw : AllB ws) : ∀ p, AllB (dk s l ws p).1
  | 0 => hw
  | p + 1 => by
    have := dk_all (s := s) hl hw p
    rw [dk]
    unfold dstep
    split
    · split
      · exact this
      · exact all_set this _ (Gf.xor_lt (nth_lt this _) (wth_lt hl _))
    · exact this

/-- an own row stays where its block stays -/
theorem own_keep {w w' : World} {base e s n c g : Nat} {xs : List Value} (h : w.ownsRow base e s (.slice (some ⟨g, 0, none⟩) n c) n xs) (hg : w'.heap[g]? = w.heap[g]?) : w'.ownsRow base e s (.slice (some ⟨g, 0, none⟩) n c) n xs := by
  refine ⟨h.1, ?_⟩
  rcases h.2 with ⟨h1, _⟩ | ⟨g', cap, cur, hv, hB, hgg, rest⟩
  · cases h1
  · cases hv
    exact .inr ⟨g, _, cur, rfl, hB, hg.trans hgg, rest⟩
theorem grown_below {V w w' : World} {r : Option Nat} (h : V.grownBy w r) (b : Below V.heap.size w w') : V.grownBy w' r :=
  ⟨b.os.trans h.os, b.tape.trans h.tape, b.output.trans h.output, Nat.le_trans h.size b.size, fun k hk hne => (b.block k hk).trans (h.block k hk hne)⟩

/-- no holes -/
theorem idx_nil (n : Nat) (hc : Nat) (f : Value) (w : World) : Calls Try.prog 29 #[.slice none 0 0, f] w fun e w' => e = .returned (.int .i64 (-1)) ∧ w' = w := by
  go_enter Try.func29, Try.ntmps29
  go_wp2
  go_loopw [8] (fun i wr => i = .int .i64 ((0 : Nat) : Int) ∧ wr = w) (fun _ _ => 0)
  case atStart => exact ⟨rfl, rfl⟩
  case round =>
    obtain ⟨rfl, rfl⟩ := hrel
    go_wp2
    go_ret
    exact ⟨rfl, rfl⟩
theorem has_nil (f : Value) (w : World) : Calls Try.prog 20 #[.slice none 0 0, f] w fun e w' => e = .returned (.bool false) ∧ w' = w := by
  go_enter Try.func20, Try.ntmps20
  go_wp2_with fail
  refine (idx_nil 0 0 f w).mono ?_
  rintro e w' ⟨rfl, rfl⟩
  go_wp2
  go_ret
  exact ⟨rfl, rfl⟩
theorem held_nil (n : Nat) (w : World) (hn : n ≤ 100000) : Calls Try.prog 11 #[.int .i64 (n : Int), .slice none 0 0] w fun e w' => e = .returned (.int .i64 0) ∧ Below w.heap.size w w' := by
  have hmm := @run_makeMap Try.prog
  go_enter Try.func11, Try.ntmps11
  go_wp2_with fail
  refine (has_nil _ _).mono ?_
  rintro e w' ⟨rfl, rfl⟩
  go_wp2
  go_loopw [14] (fun i wr => i = .int .i64 ((0 : Nat) : Int) ∧ Below w.heap.size w wr) (fun _ _ => 0)
  case atStart => exact ⟨rfl, (below_alloc _ _).trans ((below_alloc _ _).mono (by simp))⟩
  case round =>
    obtain ⟨rfl, hB⟩ := hrel
    go_wp2
    go_ret
    exact ⟨rfl, hB⟩

theorem Try.info3 : (Try.prog.info? 3).map (fun i => (i.zero, i.size, i.bytes)) = some (some (.int .i64 0), 1, 8) := by kernel_rfl
theorem Rd.celli {w : World} {ao : Option Addr} {n cap : Nat} {bs : List Nat} (h : Rd w ao n cap (vi bs)) (k : Nat) (hk : k < n) :
    ∃ b off, ao = some ⟨b, off, none⟩ ∧ b < w.heap.size ∧ w.cell? ⟨b, off + k, none⟩ = some (.int .i64 (nth bs k)) := by
  obtain ⟨b, off, ha, hlt, hc⟩ := h.mem (by omega)
  have hl := h.len
  rw [vi_len] at hl
  exact ⟨b, off, ha, hlt, by rw [hc k hk, vi_get bs k (by omega)]⟩
theorem Rd.cut {w : World} {a : Addr} {n cap : Nat} {xs : List Value} (h : Rd w (some a) n cap xs) : Rd w (some a) n n xs := ⟨h.len, Nat.le_refl _, Nat.le_trans h.le h.max, (fun e => by cases e), h.mem⟩
theorem vi_oneCell (l : List Nat) : ∀ u ∈ vi l, u.oneCell' = true := fun u hu => by
  obtain ⟨x, _, rfl⟩ := List.mem_map.1 hu
  rfl
theorem rd_liti (W : World) (x : Nat) : Rd (W.alloc (.cells #[.int .i64 (x : Int)] 3)) (some ⟨W.heap.size, 0, none⟩) 1 1 (vi [x]) := by
  have h := World.ownsRow_lit (base := W.heap.size) (e := 3) (size := 1) W #[.int .i64 (x : Int)] 1 (Nat.le_refl _) (by decide) rfl
  exact Rd.ofOwn h
theorem xin_lt (n p : Nat) : xin n p < 256 := Gf.gp_lt _
theorem pws_all (n : Nat) (hs : List Nat) : AllB (pws n hs) := fun y hy => by
  obtain ⟨h, _, rfl⟩ := List.mem_map.1 hy
  exact Gf.gp_lt _
theorem pws_len (n : Nat) (hs : List Nat) : (pws n hs).length = hs.length := by simp [pws]
theorem pws_nth (n : Nat) (hs : List Nat) (k : Nat) (h : k < hs.length) : nth (pws n hs) k = Gf.gp (n - 1 - nth hs k) := by
  simp [pws, nth, h]

set_option maxRecDepth 100000 in
set_option maxHeartbeats 4000000 in
theorem dec_ok (wa ha : Option Addr) (wn wc hn hc c : Nat) (ws hs : List Nat) (w : World) (hw : Rd w wa wn wc (vb ws)) (hwb : AllB ws) (hc1 : 1 ≤ c) (hc64 : c ≤ 64) (hcw : c < wn) (hwn : wn ≤ 255)
    (hH : Rd w ha hn hc (vi hs)) (hhs : ∀ h ∈ hs, h < wn) (hhn : hn ≤ c)
    (hheld : ∀ u, Below w.heap.size w u → Calls Try.prog 11 #[.int .i64 (wn : Int), .slice ha hn hc] u fun e w' => e = .returned (.int .i64 0) ∧ Below u.heap.size u w') :
    Calls Try.prog 8 #[.slice wa wn wc, .int .i64 (c : Int), .slice ha hn hc] w fun e w' => decAns (dec ws c hs) (wn - c) e w' ∧ Below w.heap.size w w' := by
  have hwl : ws.length = wn := by have := hw.len; rwa [vb_len] at this
  have hhl : hs.length = hn := by have := hH.len; rwa [vi_len] at this
  have Hwl := hid hwl
  have Hhl := hid hhl
  clear hwl hhl
  obtain ⟨i0, hi, hz0, hz1, hz2⟩ := info_parts Try.info5
  obtain ⟨j0, hji, jz0, jz1, jz2⟩ := info_parts Try.info3
  obtain ⟨wb, woff, rfl, _, _⟩ := hw.mem (by omega)
  go_enter Try.func8, Try.ntmps8
  go_wp2_with fail
  refine (sized_yes wn c w (by omega) (by omega) (by omega) (by omega)).mono ?_
  rintro e w' ⟨rfl, rfl⟩
  go_wp2_with fail
  refine (hheld _ (Below.refl _ _)).mono ?_
  rintro e W1 ⟨rfl, B1⟩
  go_wp2_with fail
  refine (synd_ok _ wn wc c ws W1 (hw.below B1) hwb (by omega) (by omega)).mono ?_
  rintro e W2 ⟨sa, sk, rfl, os, B2⟩
  have hsb := synd_all hwb c
  have BB := B1.trans (B2.mono B1.size)
  have hs2 := Rd.ofOwn os
  have hw2 := hw.below BB
  have hH2 := hH.below BB
  clear os B2
  cases hn0 : nought c ws
  · have Hn0 := hid hn0
    clear hn0
    have hpl := pws_len wn hs
    rw [Hhl.out] at hpl
    have Hpl := hid hpl
    clear hpl
    have hpb := pws_all wn hs
    go_wp2
    go_loopw [12, 57] (fun pv i wr => ∃ (j jc : Nat) (ja : Option Addr), j ≤ hn ∧ i = .int .i64 j ∧ pv = .slice ja j jc ∧ wr.ownsRow W2.heap.size 5 1 (.slice ja j jc) j (vb ((pws wn hs).take j)) ∧ Below W2.heap.size W2 wr) (fun _ i _ => hn - (intOf i).toNat)
    case atStart => exact ⟨0, 0, none, by omega, rfl, rfl, World.ownsRow_nil _ _ _ _, Below.refl _ _⟩
    case round =>
      obtain ⟨j, jc, ja, hj, rfl, rfl, ho, hB⟩ := hrel
      by_cases hlt : j < hn
      · obtain ⟨b, off, rfl, hbl, hcell⟩ := (hH2.below hB).celli j hlt
        have hx : nth hs j < wn := hhs _ (by rw [nth, List.getD_eq_getElem?_getD, List.getElem?_eq_getElem (by rw [Hhl.out]; exact hlt)]; exact List.getElem_mem _)
        have Hnx : Hid ((pws wn hs).take (j + 1) = (pws wn hs).take j ++ [Gf.gp (wn - 1 - nth hs j)]) := by
          show _ = _
          rw [take_snocN _ j (by rw [Hpl.out]; exact hlt), pws_nth _ _ _ (by rw [Hhl.out]; exact hlt)]
        have hpow := pow_st ((wn : Int) - 1 - (nth hs j : Nat)) (wn - 1 - nth hs j) wr (by omega) (by omega) (by omega)
        have hG := Gf.gp_lt (wn - 1 - nth hs j)
        generalize Gf.gp (wn - 1 - nth hs j) = G at *
        generalize nth hs j = x at *
        generalize hp' : (pws wn hs).take (j + 1) = p' at *
        have Hp' := hid hp'
        clear hp'
        generalize (pws wn hs).take j = pj at *
        go_wp2_with fail
        refine hpow.mono ?_
        rintro e w' ⟨rfl, rfl⟩
        have b1 := below_alloc w' (.cells #[.int .u8 (G : Int)] 5)
        have hrd := rd_lit w' G
        go_wp2_with (at_builtin; refine hold ?_)
        unfold Hid
        refine wpList_append_rd rfl _ _ 22 rfl W2.heap.size 5 i0 (.int .u8 0) 1 Try.underlying22 hi hz0 hz1 hz2 rfl ja j jc _ rfl (ownsRow_below ho b1) (some ⟨w'.heap.size, 0, none⟩) 1 1 (vb [G]) rfl hrd (vb_oneCell _) (by omega) (by unfold maxLen; omega) (by have := hB.size; simp; omega) ?_
        intro gq cq W5 o5 gr Bx
        rw [← vb_append] at o5
        have B5 := (hB.alloc hB.size _).trans Bx
        clear gr Bx b1 hrd ho
        go_wp2
        go_roundw
        case rel => exact ⟨j + 1, cq, gq, by omega, by go_num, rfl, by rw [Hp'.out, Hnx.out]; exact o5, B5⟩
        case measure => simp [intOf]; omega
      · obtain rfl : hn = j := by omega
        rw [show (pws wn hs).take hn = pws wn hs by rw [← Hpl.out, List.take_length]] at ho
        have hpR := Rd.ofOwn ho
        have hs3 := hs2.below hB
        have hw3 := hw2.below hB
        have B3 := BB.trans (hB.mono BB.size)
        clear ho hs2 hw2 hH2 hB BB
        have hsyl := synd_len ws c
        have hok := lok (s := synd ws c) hpb (c - hn)
        rw [Hpl.out] at hok
        have hloc := loc_ok sa ja c sk hn jc (synd ws c) (pws wn hs) wr hs3 hsb hpR hpb (by omega) hhn
        have Hdec : Hid (dec ws c hs = if c + hn < 2 * (loc (synd ws c) (pws wn hs) (c - hn)).2.2 then none
            else if (dk (synd ws c) (loc (synd ws c) (pws wn hs) (c - hn)).1 ws wn).2.2 = (loc (synd ws c) (pws wn hs) (c - hn)).2.2 then
              (if nought c (dk (synd ws c) (loc (synd ws c) (pws wn hs) (c - hn)).1 ws wn).1 = true then some ((dk (synd ws c) (loc (synd ws c) (pws wn hs) (c - hn)).1 ws wn).1.take (wn - c), (dk (synd ws c) (loc (synd ws c) (pws wn hs) (c - hn)).1 ws wn).2.1) else none) else none) := by
          show _ = _
          unfold dec
          rw [if_neg (by rw [Hn0.out]; simp)]
          simp only [Hwl.out, Hhl.out]
        generalize loc (synd ws c) (pws wn hs) (c - hn) = T at *
        obtain ⟨ls, bs', lg⟩ := T
        obtain ⟨q1, q2, _, hlb, _, q6⟩ := hok
        simp only at q1 q2 hlb q6 Hdec hloc
        generalize synd ws c = ss at *
        clear hpR hpb Hpl hsyl hheld
        go_wp2_with fail
        refine hloc.mono ?_
        rintro e V0 ⟨la, ln, lc, rfl, hl, B4⟩
        have hlen : ls.length = ln := by have := hl.len; rwa [vb_len] at this
        have Hlen := hid hlen
        rw [hlen] at q1 q2
        clear hlen hloc
        have hs4 := hs3.below B4
        have hw4 := hw3.below B4
        have B5 := B3.trans (B4.mono B3.size)
        clear hs3 hw3 B3 B4
        by_cases hbig : c + hn < 2 * lg
        · go_wp2
          go_ret3
          refine ⟨?_, B5⟩
          rw [Hdec.out, if_pos hbig]
          rfl
        · have Hdec : Hid (dec ws c hs = if (dk ss ls ws wn).2.2 = lg then (if nought c (dk ss ls ws wn).1 = true then some ((dk ss ls ws wn).1.take (wn - c), (dk ss ls ws wn).2.1) else none) else none) := by
            show _ = _
            rw [Hdec.out, if_neg hbig]
          go_wp2_with fail
          refine (clone_any (some ⟨wb, woff, none⟩) wn wc ws V0 hw4 (by omega)).mono ?_
          rintro e V ⟨qa, qc, rfl, oq, BV⟩
          obtain ⟨g, rfl, hg1, hg2⟩ := some_own oq (by omega)
          have nS : ∀ b off, 0 < c → sa = some ⟨b, off, none⟩ → b ≠ g := fun b off h0 h => by have := hs4.block_lt h0 h; omega
          have nL : ∀ b off, 0 < ln → la = some ⟨b, off, none⟩ → b ≠ g := fun b off h0 h => by have := hl.block_lt h0 h; omega
          have hs5 := hs4.below BV
          have hl5 := hl.below BV
          have B6 := B5.trans (BV.mono B5.size)
          have wg := Nat.le_trans B5.size hg1
          clear hs4 hw4 hl B5 BV
          go_wp2
          go_loopw [18, 19, 88] (fun av z i wr => ∃ (p zc bk : Nat) (o av' : List Nat) (ba : Option Addr), p ≤ wn ∧ i = .int .i64 p ∧ z = .int .i64 zc ∧ av = .slice ba av'.length bk ∧ Hid (dk ss ls ws p = (o, av', zc)) ∧
            wr.ownsRow V0.heap.size 5 1 (.slice (some ⟨g, 0, none⟩) wn qc) wn (vb o) ∧ wr.ownsRow V.heap.size 3 1 (.slice ba av'.length bk) av'.length (vi av') ∧ V.grownBy wr (some g)) (fun _ _ i _ => wn - (intOf i).toNat)
          case atStart => exact ⟨0, 0, 0, ws, [], none, by omega, rfl, rfl, rfl, rfl, oq, World.ownsRow_nil _ _ _ _, World.grownBy.refl _ _⟩
          case round =>
            obtain ⟨p, zc, bk, o, av', ba, hp, rfl, rfl, rfl, Hdk, ho, hoa, hG⟩ := hrel
            have hcnt := dk_cnt ss ls ws p
            have hob := dk_all (s := ss) hlb hwb p
            rw [Hdk.out] at hcnt hob
            simp only at hcnt hob
            obtain ⟨hcnt1, hcnt2⟩ := hcnt
            have hsr := hs5.grown hG (fun b off h0 hh e => by cases e; exact nS _ _ h0 hh rfl)
            have hlr := hl5.grown hG (fun b off h0 hh e => by cases e; exact nL _ _ h0 hh rfl)
            by_cases hlt : p < wn
            · have hpow := pow_st ((p : Int) + 1 - (wn : Int)) _ wr (by omega) (by omega) rfl
              have Hst : Hid (dk ss ls ws (p + 1) = dstep ss ls wn p (o, av', zc)) := by
                show _ = _
                rw [dk, Hdk.out, Hwl.out]
              have hx := xin_lt wn p
              change Calls Try.prog 14 _ wr fun e w' => e = .returned (.int .u8 ((xin wn p : Nat) : Int)) ∧ w' = wr at hpow
              unfold dstep at Hst
              generalize xin wn p = x at *
              go_wp2_with fail
              refine hpow.mono ?_
              rintro e w' ⟨rfl, rfl⟩
              go_wp2_with fail
              refine (at_ok la ln lc ls hlb x hx (by omega) _ hlr).mono ?_
              rintro e W4 ⟨⟨v, rfl, hv, Hv⟩, B4⟩
              have hG4 := grown_below hG (B4.mono hG.size)
              have ho4 := ownsRow_below ho B4
              have hoa4 := ownsRow_below hoa B4
              have hs6 := hsr.below B4
              have hl6 := hlr.below B4
              clear ho hoa hsr hlr hG B4 hpow
              by_cases hv0 : v = 0
              · subst hv0
                rw [if_pos Hv.out.symm] at Hst
                have hkl := wth_lt (s := ss) hlb x
                have hwo := worth_ok sa la c sk ln lc x ss ls W4 hs6 hsb hl6 hlb hx (by omega) (by omega)
                generalize wth ss ls x = k at *
                go_wp2_with fail
                refine hwo.mono ?_
                rintro e W5 ⟨rfl, B5⟩
                have hG5 := grown_below hG4 (B5.mono hG4.size)
                have ho5 := ownsRow_below ho4 B5
                have hoa5 := ownsRow_below hoa4 B5
                clear hs6 hl6 ho4 hoa4 hG4 B5 hwo
                by_cases hk0 : k = 0
                · subst hk0
                  have Hst : Hid (dk ss ls ws (p + 1) = (o, av', zc + 1)) := by have h := Hst.out; rwa [if_pos rfl] at h
                  go_wp2
                  go_roundw
                  case rel => exact ⟨p + 1, zc + 1, bk, o, av', ba, by omega, by go_num, by go_num, rfl, Hst, ho5, hoa5, hG5⟩
                  case measure => simp [intOf]; omega
                · have hk1 : ¬ ((k : Int) = 0) := by omega
                  have Hst : Hid (dk ss ls ws (p + 1) = (o.set p (nth o p ^^^ k), av' ++ [p], zc + 1)) := by have h := Hst.out; rwa [if_neg hk0] at h
                  have hol : o.length = wn := by have := (Rd.ofOwn ho5).len; rwa [vb_len] at this
                  have hpc : W5.cell? ⟨g, p, none⟩ = some (.int .u8 (nth o p)) := by
                    rw [ho5.cellAt p (by omega), vb_get _ _ (by omega)]
                  have hpf : W5.frozen? ⟨g, p, none⟩ = false := ho5.frozenAt _
                  have hp256 := nth_lt hob p
                  have Hsd := hid (ho5.stored p (.int .u8 ((nth o p ^^^ k : Nat) : Int)))
                  rw [vb_set] at Hsd
                  have e1 := u8_xor_nat (nth o p) k (by omega) (by omega)
                  have hgV : g < V.heap.size := hg2
                  clear hol
                  generalize ho' : o.set p (nth o p ^^^ k) = o' at *
                  clear ho'
                  generalize nth o p = y at *
                  go_wp2_with (at_builtin; refine hold ?_)
                  have hsz : (W5.setCell ⟨g, p, none⟩ (.int .u8 ((y ^^^ k : Nat) : Int))).heap.size = W5.heap.size := by simp
                  generalize W5.setCell ⟨g, p, none⟩ (.int .u8 ((y ^^^ k : Nat) : Int)) = W6 at *
                  obtain ⟨ho6, g6⟩ := Hsd.out
                  clear Hsd hpc hpf
                  have hG6 := grownBy_trans hG5 g6
                  have hne : (Value.slice ba av'.length bk).ownBlock ≠ some g := fun he => by
                    have := (hoa5.lt g he).1
                    omega
                  have hoa6 := (Kept2.left (b := g) g6).own hoa5 hne hne
                  have b1 := below_alloc W6 (.cells #[.int .i64 (p : Int)] 3)
                  have hrd := rd_liti W6 p
                  rw [hsz] at hrd
                  have hVs := hG6.size
                  clear hoa5 ho5 hG5 g6 hne
                  unfold Hid
                  refine wpList_append_rd rfl _ _ 28 rfl V.heap.size 3 j0 (.int .i64 0) 8 Try.underlying28 hji jz0 jz1 jz2 rfl ba av'.length bk _ rfl (ownsRow_below hoa6 b1) (some ⟨W5.heap.size, 0, none⟩) 1 1 (vi [p]) rfl hrd (vi_oneCell _) (by omega) (by unfold maxLen; omega) (by simp; omega) ?_
                  intro gq cq W7 o7 gr Bx
                  rw [← vi_append] at o7
                  have B7 : Below V.heap.size W6 W7 := (b1.mono hVs).trans Bx
                  have ho7 := own_keep ho6 (B7.block g hgV)
                  have hG7 := grown_below hG6 B7
                  clear gr Bx b1 hrd ho6 hoa6 B7 hG6
                  have hal : av'.length + 1 = (av' ++ [p]).length := by rw [List.length_append]; rfl
                  have o7 : Hid (W7.ownsRow V.heap.size 3 1 (.slice gq (av' ++ [p]).length cq) (av' ++ [p]).length (vi (av' ++ [p]))) := by rw [hal] at o7; exact o7
                  rw [hal]
                  clear hal
                  generalize av' ++ [p] = av2 at *
                  go_wp2
                  go_roundw
                  case rel => exact ⟨p + 1, zc + 1, cq, o', av2, gq, by omega, by go_num, by go_num, rfl, Hst, ho7, o7.out, hG7⟩
                  case measure => simp [intOf]; omega
              · have hv1 : ¬ ((v : Int) = 0) := by omega
                have Hst : Hid (dk ss ls ws (p + 1) = (o, av', zc)) := by
                  have h := Hst.out
                  rwa [if_neg (by rw [← Hv.out]; exact hv0)] at h
                go_wp2
                go_roundw
                case rel => exact ⟨p + 1, zc, bk, o, av', ba, by omega, by go_num, rfl, rfl, Hst, ho4, hoa4, hG4⟩
                case measure => simp [intOf]; omega
            · obtain rfl : wn = p := by omega
              rw [Hdk.out] at Hdec
              simp only at Hdec
              have Hdk := Hdk
              have B7 := below_of_grown B6 hG wg
              have hoR := Rd.ofOwn ho
              have haR := Rd.ofOwn hoa
              by_cases hz : zc = lg
              · rw [if_pos hz] at Hdec
                have hz' : (zc : Int) = (lg : Int) := by omega
                clear hsr hlr hz
                have hsy := synd_ok (some ⟨g, 0, none⟩) wn qc c o wr hoR hob (by omega) (by omega)
                go_wp2_with fail
                refine hsy.mono ?_
                rintro e W6 ⟨za, zk, rfl, oz, BZ⟩
                have B8 := B7.trans (BZ.mono B7.size)
                have hoR := hoR.below BZ
                have haR := haR.below BZ
                clear oz hsy
                cases hn1 : nought c o
                · rw [hn1, if_neg (by simp)] at Hdec
                  go_wp2
                  go_ret3
                  refine ⟨?_, B8⟩
                  rw [Hdec.out]
                  rfl
                · rw [hn1, if_pos rfl] at Hdec
                  have e2 : ((wn : Int) - (c : Int)).toNat = wn - c := by omega
                  have e3 := hoR.le
                  have hq := hoR.take (wn - c) (by omega)
                  rw [vb_take] at hq
                  go_wp2
                  go_ret3
                  refine ⟨?_, B8⟩
                  rw [Hdec.out]
                  exact ⟨_, _, ba, bk, rfl, hq.cut, haR⟩
              · rw [if_neg hz] at Hdec
                have hz' : ¬ (zc : Int) = (lg : Int) := by omega
                clear hsr hlr
                go_wp2
                go_ret3
                refine ⟨?_, B7⟩
                rw [Hdec.out]
                rfl
  · have Hn0 := hid hn0
    clear hn0
    have e2 : ((wn : Int) - (c : Int)).toNat = wn - c := by omega
    have e3 := hw2.le
    have hq := hw2.take (wn - c) (by omega)
    rw [vb_take] at hq
    go_wp2_with fail
    refine (clone_any (some ⟨wb, woff, none⟩) (wn - c) wc (ws.take (wn - c)) W2 hq (by omega)).mono ?_
    rintro e W3 ⟨qa, qc, rfl, o3, B3⟩
    go_wp2
    go_ret3
    refine ⟨?_, BB.trans (B3.mono BB.size)⟩
    unfold dec
    rw [if_pos Hn0.out, Hwl.out]
    exact ⟨qa, qc, none, 0, rfl, Rd.ofOwn o3, ⟨rfl, Nat.le_refl _, Nat.zero_le _, fun _ => rfl, fun h => by simp at h⟩⟩
end Go.Proofs.Ytendgihkjibbaaa
