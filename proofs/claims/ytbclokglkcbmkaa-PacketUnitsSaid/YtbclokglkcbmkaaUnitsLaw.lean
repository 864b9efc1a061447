/- PacketUnits: the walk of the law. -/
import Derived.Test.YtbclokglkcbmkaaRowsOf
import Derived.Test.YtbclokglkcbmkaaRegionP
import Derived.Test.YtbclokglkcbmkaaPick
import Derived.Outline
namespace Go.Proofs.Ytbclokglkcbmkaa
set_option linter.unusedVariables false
open Go.RowKit

theorem Try.info23 : (Try.prog.info? 23).map (fun i => (i.zero, i.size, i.bytes)) = some (some (.slice none 0 0), 1, 24) := by kernel_rfl
theorem Try.info5' : (Try.prog.info? 5).map (fun i => (i.zero, i.size, i.bytes)) = some (some (.int .u8 0), 1, 1) := by kernel_rfl

/-- the units that came in -/
structure RdU (w : World) (ao : Option Addr) (n : Nat) (f : Nat → RB) : Prop where
  mem : 0 < n → ∃ b off, ao = some ⟨b, off, none⟩ ∧ b < w.heap.size ∧ ∀ j, j < n → w.cell? ⟨b, off + j, none⟩ = some (.slice (f j).1.1 (f j).1.2.1 (f j).1.2.2)
  each : ∀ j, j < n → Rd w (f j).1.1 (f j).1.2.1 (f j).1.2.2 (vb (f j).2)

theorem own_addr {w : World} {B e n : Nat} {a : Option Addr} {c : Nat} {xs : List Value} (h : w.ownsRow B e 1 (.slice a n c) n xs) (hn : 0 < n) : ∃ g, a = some ⟨g, 0, none⟩ := by
  obtain ⟨_, ⟨h1, h2⟩ | ⟨g, cap, cur, h1, _⟩⟩ := h
  · omega
  · cases h1; exact ⟨g, rfl⟩

set_option maxHeartbeats 4000000 in
set_option maxRecDepth 100000 in
theorem law_walk (ua la : Option Addr) (un uc ln lc : Nat) (most count : Int) (f : Nat → RB) (ls : List Int) (w0 : World) (hU : RdU w0 ua un f) (hL : Rd w0 la ln lc (vz ls)) (hun : un ≤ 17592186044416) (hln : ln ≤ 17592186044416)
    (hm : I64 most) (hc : I64 count) :
    Calls Try.prog 4 #[.slice ua un uc, .int .i64 most, .int .i64 count, .slice la ln lc] w0 fun e w' => e = .returned (.bool true) ∧ Below w0.heap.size w0 w' := by
  obtain ⟨i0, hi, hz0, hz1, hz2⟩ := info_parts Try.info5'
  obtain ⟨i1, hi', hz0', hz1', hz2'⟩ := info_parts Try.info23
  go_enter Try.func4, Try.ntmps4
  go_wp2_with fail
  refine (pick_any most 40 w0 hm.1 hm.2 (by decide) (by decide)).mono ?_
  rintro e w' ⟨m', rfl, hm', _, rfl⟩
  have hm' : m' < 40 := hm'
  go_wp2_with fail
  refine (pick_any count 16384 w0 hc.1 hc.2 (by decide) (by decide)).mono ?_
  rintro e w' ⟨c0, rfl, hc0, _, rfl⟩
  have hc0 : c0 < 16384 := hc0
  obtain ⟨m, hme⟩ : ∃ m, m = m' + 1 := ⟨_, rfl⟩
  have e1 : (1 : Int) + (m' : Int) = (m : Int) := by omega
  have hmb : 1 ≤ m ∧ m ≤ 40 := by omega
  clear hme
  go_wp2_with fail
  refine (begin_ok 9 w0 (by decide)).mono ?_
  rintro e V ⟨rfl, bV⟩
  have A := heap_alloc_new V (.cells #[.int .i64 9, .int .i64 (-1), .bool false, .slice none 0 0] 37)
  have bN := below_alloc V (.cells #[.int .i64 9, .int .i64 (-1), .bool false, .slice none 0 0] 37)
  have bW := bV.trans (bN.mono bV.size)
  have hjl := bV.size
  go_upto_region 3 with fail
  clear bN bV
  generalize V.alloc (.cells #[.int .i64 9, .int .i64 (-1), .bool false, .slice none 0 0] 37) = W0 at *
  generalize V.heap.size = jb at *
  have hS0 : St w0 W0 jb none none 0 0 [] [] (-1) [] :=
    ⟨bW, World.ownsRow_nil _ _ _ _, World.ownsRow_nil _ _ _ _, (fun b h => by cases h), (fun r h => by cases h), (fun r h => by cases h), ⟨none, 0, 0, rfl, A, World.ownsRow_nil _ _ _ _⟩, hjl⟩
  clear A bW
  go_wp2_with fail
  go_loopw [10, 13, 14, 15, 16] (fun c n wv gv iv wr => ∃ (i N ct : Nat) (ga wa : Option Addr) (gc wc : Nat) (R Q : List RB) (nx : Int) (us : List Nat), c = .int .i64 (ct : Int) ∧ n = .int .i64 (N : Int) ∧ wv = .slice wa Q.length wc ∧ gv = .slice ga R.length gc ∧ iv = .int .i64 (i : Int) ∧
      i ≤ un ∧ i ≤ 40 ∧ N ≤ 301 * i ∧ R.length ≤ i ∧ conts R = conts Q ∧ Hid (ct = (c0 + N) % 16384) ∧ Inv c0 N nx us ∧ St w0 wr jb ga wa gc wc R Q nx us) (fun _ _ _ _ iv _ => 40 - (intOf iv).toNat)
  case atStart => exact ⟨0, 0, c0, none, none, 0, 0, [], [], -1, [], rfl, rfl, rfl, rfl, rfl, Nat.zero_le _, Nat.zero_le _, Nat.zero_le _, Nat.zero_le _, rfl, by rw [Nat.add_zero, Nat.mod_eq_of_lt hc0]; rfl, inv_start c0, hS0⟩
  case round =>
    clear hS0
    obtain ⟨i, N, ct, ga, wa, gc, wc, R, Q, nx, us, rfl, rfl, rfl, rfl, rfl, hi1, hi2, hN, hRl, hRQ, hct, hI, hS⟩ := hrel
    by_cases hlt : i < un ∧ i < 40
    · obtain ⟨hl1, hl2⟩ := hlt
      obtain ⟨ub, uo, rfl, hubl, hucell⟩ := hU.mem (by omega)
      have hur := hU.each i hl1
      have huc := (hS.bel.cell (p := ⟨ub, uo + i, none⟩) hubl).trans (hucell i hl1)
      clear hucell
      have t1 : (i : Int) < (un : Int) := by omega
      have t2 : (i : Int) < 40 := by omega
      obtain ⟨⟨⟨xa, xn, xc⟩, bs⟩, hfi⟩ : ∃ r, f i = r := ⟨_, rfl⟩
      rw [hfi] at hur huc
      clear hfi
      simp only at hur huc
      by_cases h300 : 300 < xn
      · have t3 : (300 : Int) < (xn : Int) := by omega
        go_wp2_with fail
        go_ret
        exact ⟨rfl, hS.bel⟩
      · have t3 : ¬ (300 : Int) < (xn : Int) := by omega
        have HRQ := hid hRQ
        clear hRQ
        have hbl : bs.length = xn := by have := hur.len; rwa [vb_len] at this
        have hub := hur.below hS.bel
        have oA := World.ownsRow_lit (base := w0.heap.size) (e := 5) (size := 1) wr #[.int .u8 (i : Int)] 1 hS.bel.size (by unfold maxLen; omega) rfl
        have oA : (wr.alloc (.cells #[.int .u8 (i : Int)] 5)).ownsRow w0.heap.size 5 1 (.slice (some ⟨wr.heap.size, 0, none⟩) 1 1) 1 (vb [i]) := oA
        have bA := below_alloc wr (.cells #[.int .u8 (i : Int)] 5)
        have hub := hub.below bA
        have huc2 := (bA.cell (p := ⟨ub, uo + i, none⟩) (World.block_lt_of_cell? wr ⟨ub, uo + i, none⟩ huc)).trans huc
        have hctb : ct < 16384 := by rw [hct.out]; omega
        go_upto_region 12 with fail
        go_wp2_with (at_builtin; refine hold ?_)
        unfold Hid
        refine wpList_append_rd rfl _ _ 23 rfl w0.heap.size 5 i0 (.int .u8 0) 1 Try.underlying23 hi hz0 hz1 hz2 rfl _ 1 1 _ rfl oA xa xn xc (vb bs) rfl hub (vb_oneCell _) (by omega) (by unfold maxLen; omega) (Nat.le_trans hS.bel.size bA.size) ?_
        intro u1 u2 W1 ou gr _
        rw [← vb_append] at ou
        have hS := hS.below (bA.grown gr bA.size (fun k e => by simp [Value.ownBlock] at e; omega))
        clear gr bA oA hub huc2 huc hur
        have huL : ([i] ++ bs).length = 1 + xn := by rw [List.length_append, hbl]; rfl
        generalize [i] ++ bs = u at *
        generalize hxn : 1 + xn = xu at *
        have hxu : 1 ≤ xu ∧ xu ≤ 301 := by omega
        clear hxn hbl t3 h300
        obtain ⟨K, hK⟩ : ∃ K, K = pieces xu m := ⟨_, rfl⟩
        have tq : ((xu : Int) + (m : Int) - 1) / (m : Int) = (K : Int) := by rw [hK, show (xu : Int) + (m : Int) - 1 = ((xu + m - 1 : Nat) : Int) by omega]; rfl
        have tq' : ((xu : Int) + (m : Int) - 1).tdiv (m : Int) = (K : Int) := by rw [Int.tdiv_eq_ediv_of_nonneg (by omega)]; exact tq
        have hKb : 1 ≤ K ∧ K ≤ 301 := by
          have h1 := (pieces_lt (len := xu) (m := m) (k := 0) (by omega)).2 (by omega)
          rw [← hK] at h1
          refine ⟨h1, ?_⟩
          rcases Nat.lt_or_ge 301 K with h | h
          · have h2 := (pieces_lt (len := xu) (m := m) (k := 301) (by omega)).1 (by rw [← hK]; exact h)
            have := Nat.le_mul_of_pos_right 301 (show 0 < m by omega)
            omega
          · exact h
        have HK := hid hK
        go_wp2_with fail
        refine (cut_ok false 9 ct m xu u2 u1 u W1 (by decide) (by omega) (by omega) (by omega) (Rd.ofOwn ou)).mono ?_
        rintro e W2 ⟨⟨g, gcap, G, rfl, ol, hG⟩, b2⟩
        rw [← hK] at ol hG ⊢
        clear hK
        have hW1s := hS.bel.size
        have hS := hS.below b2
        have ou := ownsRow_below ou b2
        have ol := ownsRow_mono ol hW1s
        have hG := hG.to2 (W' := W2) (B' := w0.heap.size) hW1s fun p h => h
        clear b2
        obtain ⟨ct2, hct2⟩ : ∃ ct2, ct2 = (ct + K) % 16384 := ⟨_, rfl⟩
        have e5 : ((ct : Int) + (K : Int)) % 16384 = (ct2 : Int) := by rw [hct2]; omega
        have e6 : ((ct : Int) + (K : Int)).tmod 16384 = (ct2 : Int) := by rw [Int.tmod_eq_emod_of_nonneg (by omega)]; exact e5
        have Hct2 := hid hct2
        clear hct2
        go_wp2_with fail
        have hRQl : R.length = R.length := rfl
        go_loopw [13, 15, 20, 21] (fun nv gv wh kv wr => ∃ (k : Nat) (b : Bool) (ga : Option Addr) (gc : Nat) (R' : List RB) (nx : Int) (us : List Nat), nv = .int .i64 ((N + k : Nat) : Int) ∧ gv = .slice ga R'.length gc ∧ wh = .bool b ∧ kv = .int .i64 (k : Int) ∧ k ≤ K ∧
          InvK c0 (N + k) k K m b u nx us ∧ Hid (conts R' = conts R ++ if b = true ∧ k = K then [u] else []) ∧ R'.length ≤ i + 1 ∧ (k < K → R'.length ≤ i) ∧ St w0 wr jb ga wa gc wc R' Q nx us ∧ wr.ownsRow w0.heap.size 29 6 (.slice (some ⟨g, 0, none⟩) K gcap) K (pcs G) ∧
          Gs wr w0.heap.size u m false 9 ct (ptf K) (List.range K) G ∧ wr.ownsRow w0.heap.size 5 1 (.slice u1 xu u2) xu (vb u)) (fun _ _ _ kv _ => K - (intOf kv).toNat)
        case atStart => exact ⟨0, true, ga, gc, R, nx, us, rfl, rfl, rfl, rfl, Nat.zero_le _, invK_start hI, by rw [if_neg (by omega), List.append_nil]; rfl, by omega, fun _ => hRl, hS, ol, hG, ou⟩
        case round =>
          clear hS ol hG ou hI
          obtain ⟨k, b, ga, gc, R', nx, us, rfl, rfl, rfl, rfl, hk, hI, hR', hR1, hR2, hS, ol, hG, ou⟩ := hrel
          by_cases hkK : k < K
          · have t4 : (k : Int) < (K : Int) := by omega
            have hR3 := hR2 hkK
            clear hR2
            go_wp2_with fail
            go_loop [22, 23] (fun gv xv => ∃ (b3 : Bool) (x : Nat), gv = .bool b3 ∧ xv = .int .i64 (x : Int) ∧ x ≤ ln) (fun _ xv => ln - (intOf xv).toNat)
            case atStart => exact ⟨false, 0, rfl, rfl, Nat.zero_le _⟩
            case round =>
              obtain ⟨b3, x, rfl, rfl, hx⟩ := hrel
              by_cases hxl : x < ln
              · obtain ⟨lb, lo, rfl, _, hlc⟩ := (hL.below' (Nat.le_refl _) hS.bel).cellz x hxl
                have t5 : (x : Int) < (ln : Int) := by omega
                cases b3
                · go_wp2_with fail
                  go_round
                  case rel => exact ⟨_, x + 1, rfl, by go_num, by omega⟩
                  case measure => simp [intOf]; omega
                · go_wp2_with fail
                  go_round
                  case rel => exact ⟨_, x + 1, rfl, by go_num, by omega⟩
                  case measure => simp [intOf]; omega
              · have t5 : ¬ (x : Int) < (ln : Int) := by omega
                have hN2 : N + k < 12100 := by omega
                cases b3
                · have hkG : k < G.length := by rw [hG.len, List.length_range]; exact hkK
                  obtain ⟨q1, q2, q3, q4, ⟨y, hy, q5⟩, q6⟩ := hG.each k hkG
                  have hpo := hG.mem _ (List.getElem_mem hkG)
                  have hpa := fun j (hj : j < 6) => pcs_at G k hkG j hj
                  obtain rfl : y = k := by rw [List.getElem?_range hkK] at hy; exact (Option.some.inj hy).symm
                  clear hy
                  generalize G[y] = p at *
                  obtain ⟨pup, pap, ppt, pct, pa, pn, pcc, pds⟩ := p
                  simp only at q1 q2 q3 q4 q5 q6 hpo
                  subst q1 q2 q3
                  obtain ⟨fi, hfi⟩ : ∃ fi, fi = decide (y = 0) := ⟨_, rfl⟩
                  obtain ⟨la', hla⟩ : ∃ la', la' = decide (y + 1 = K) := ⟨_, rfl⟩
                  have hpv := pv_ptf K y
                  rw [← hfi, ← hla] at hpv
                  have hstep := invK_step hI hkK (by rw [huL]; exact HK.out) (by omega) (by omega)
                  rw [← hfi, ← hla] at hstep
                  have hctk : (c0 + (N + y)) % 16384 = pct := by rw [q4, hct.out]; omega
                  rw [hctk, ← q5] at hstep
                  obtain ⟨ja, jn, jcp, hjl, hjr, hjo⟩ := hS.jrow
                  have hdl : pds.length ≤ 65536 ∧ 0 < pn := by
                    have h1 := (pieces_lt (len := xu) (m := m) (k := y) (by omega)).1 (by rw [← HK.out]; exact hkK)
                    have h2 : pds.length = min m (u.length - y * m) := by rw [q5]; unfold piece; rw [List.length_take, List.length_drop]
                    omega
                  have hpr := hI.1.pre
                  have p0 : wr.cell? ⟨g, y * 6, none⟩ = some (.bool false) := by rw [show y * 6 = y * 6 + 0 by omega, ol.cellAt _ (by omega), hpa 0 (by omega)]; rfl
                  have p1 : wr.cell? ⟨g, y * 6 + 1, none⟩ = some (.bool false) := by rw [ol.cellAt _ (by omega), hpa 1 (by omega)]; rfl
                  have p2 : wr.cell? ⟨g, y * 6 + 2, none⟩ = some (.int .i64 9) := by rw [ol.cellAt _ (by omega), hpa 2 (by omega)]; rfl
                  have p3 : wr.cell? ⟨g, y * 6 + 3, none⟩ = some (.int .i64 (pv fi la')) := by rw [ol.cellAt _ (by omega), hpa 3 (by omega), hpv]; rfl
                  have p4 : wr.cell? ⟨g, y * 6 + 4, none⟩ = some (.int .i64 (pct : Int)) := by rw [ol.cellAt _ (by omega), hpa 4 (by omega)]; rfl
                  have p5 : wr.cell? ⟨g, y * 6 + 5, none⟩ = some (.slice pa pn pcc) := by rw [ol.cellAt _ (by omega), hpa 5 (by omega)]; rfl
                  have hpct : pct ≤ 16383 := by omega
                  have hgl : g < wr.heap.size := World.block_lt_of_cell? wr _ p0
                  have Hla := hid hla
                  have Hst := hid hstep
                  clear hpa hpv hfi q4 q5 hctk hla hstep
                  go_upto_region 30 with fail
                  obtain ⟨B0, hB0⟩ : ∃ B0, B0 = wr.heap.size := ⟨_, rfl⟩
                  refine wp_region_plans 6 [5] (Plan.of [0, 1, 2, 3, 4, 5] .nil) (Below B0) [11] (Plan.of [6, 7, 8, 9, 10, 11, 12, 13] .nil) (fun u u' => u.grownBy u' (some jb)) (fun _ => Below.refl _ _) (fun _ _ _ h k => h.trans k) (fun u => World.grownBy.refl u _) (fun _ _ _ h k => grownBy_trans h k) (by kernel_rfl) (by kernel_rfl) ?_
                  simp only [Plan.of, Plan.lay, List.contains_cons, List.contains_nil, List.getD_cons_zero, List.getD_cons_succ, Nat.reduceBEq, Bool.or_false]
                  have hS := hS.below ((Below.refl _ wr).drew)
                  have ol := ol.drew
                  have hG := hG.to (W' := wr.drew) fun p h => h.drew
                  have ou := ou.drew
                  have hjr : wr.drew.heap[jb]? = _ := hjr
                  have hjo := hjo.drew
                  have hpo := hpo.drew
                  have hB1 : B0 = wr.drew.heap.size := hB0
                  have p0 : wr.drew.cell? ⟨g, y * 6, none⟩ = _ := p0
                  have p1 : wr.drew.cell? ⟨g, y * 6 + 1, none⟩ = _ := p1
                  have p2 : wr.drew.cell? ⟨g, y * 6 + 2, none⟩ = _ := p2
                  have p3 : wr.drew.cell? ⟨g, y * 6 + 3, none⟩ = _ := p3
                  have p4 : wr.drew.cell? ⟨g, y * 6 + 4, none⟩ = _ := p4
                  have p5 : wr.drew.cell? ⟨g, y * 6 + 5, none⟩ = _ := p5
                  have hgl : g < wr.drew.heap.size := hgl
                  clear hB0
                  generalize wr.drew = W at *
                  have hjlt := row_lt hjr
                  rw [← hB1] at hgl hjlt
                  have HB := hid hB1
                  clear hB1
                  have j0 : ∀ w', Below B0 W w' → w'.cell? ⟨jb, 0, none⟩ = some (.int .i64 9) := fun w' hw => (hw.cell (p := ⟨jb, 0, none⟩) hjlt).trans (by rw [cell_of_row _ _ _ _ _ _ hjr]; rfl)
                  have j1 : ∀ w', Below B0 W w' → w'.cell? ⟨jb, 1, none⟩ = some (.int .i64 nx) := fun w' hw => (hw.cell (p := ⟨jb, 1, none⟩) hjlt).trans (by rw [cell_of_row _ _ _ _ _ _ hjr]; rfl)
                  have j2 : ∀ w', Below B0 W w' → w'.cell? ⟨jb, 2, none⟩ = some (.bool (opn us)) := fun w' hw => (hw.cell (p := ⟨jb, 2, none⟩) hjlt).trans (by rw [cell_of_row _ _ _ _ _ _ hjr]; rfl)
                  have j3 : ∀ w', Below B0 W w' → w'.cell? ⟨jb, 3, none⟩ = some (.slice ja jn jcp) := fun w' hw => (hw.cell (p := ⟨jb, 3, none⟩) hjlt).trans (by rw [cell_of_row _ _ _ _ _ _ hjr]; rfl)
                  have n0 : ∀ w', Below B0 W w' → w'.cell? ⟨g, y * 6, none⟩ = some (.bool false) := fun w' hw => (hw.cell (p := ⟨g, y * 6, none⟩) hgl).trans p0
                  have n1 : ∀ w', Below B0 W w' → w'.cell? ⟨g, y * 6 + 1, none⟩ = some (.bool false) := fun w' hw => (hw.cell (p := ⟨g, y * 6 + 1, none⟩) hgl).trans p1
                  have n2 : ∀ w', Below B0 W w' → w'.cell? ⟨g, y * 6 + 2, none⟩ = some (.int .i64 9) := fun w' hw => (hw.cell (p := ⟨g, y * 6 + 2, none⟩) hgl).trans p2
                  have n3 : ∀ w', Below B0 W w' → w'.cell? ⟨g, y * 6 + 3, none⟩ = some (.int .i64 (pv fi la')) := fun w' hw => (hw.cell (p := ⟨g, y * 6 + 3, none⟩) hgl).trans p3
                  have n4 : ∀ w', Below B0 W w' → w'.cell? ⟨g, y * 6 + 4, none⟩ = some (.int .i64 (pct : Int)) := fun w' hw => (hw.cell (p := ⟨g, y * 6 + 4, none⟩) hgl).trans p4
                  have n5 : ∀ w', Below B0 W w' → w'.cell? ⟨g, y * 6 + 5, none⟩ = some (.slice pa pn pcc) := fun w' hw => (hw.cell (p := ⟨g, y * 6 + 5, none⟩) hgl).trans p5
                  clear p0 p1 p2 p3 p4 p5
                  repeat (refine wpTL_do rfl (fun w' hw' => (by go_simp; rfl)) ?_; simp only [Act.put, List.setIfInBounds_toArray, List.set_cons_succ, List.set_cons_zero])
                  clear n0 n1 n2 n3 n4 n5 j0 j1 j2 j3
                  refine wpTL_call rfl (fun K hK => ?_)
                  go_wp2_with fail
                  refine (join_ok 9 nx us pds ja pa jn jcp pn pcc false false fi la' pct W (by decide) hpr.1 (by omega) hpr.2.2 hpct hdl.2 (by omega) (Rd.ofOwn hjo) (Rd.ofOwn hpo)).mono ?_
                  rintro e V1 ⟨a1, ta, n1, k1, tn, tc, ls1, rfl, o1, ot, b1⟩
                  refine hK _ _ (by rw [HB.out]; exact b1) ?_
                  clear hK K
                  try simp only [Act.put, List.setIfInBounds_toArray, List.set_cons_succ, List.set_cons_zero]
                  obtain ⟨us3, hus3⟩ : ∃ x, x = un3 la' (un2 fi (un1 nx pct us) pds) := ⟨_, rfl⟩
                  obtain ⟨gt, hgt⟩ : ∃ x, x = got3 la' (un2 fi (un1 nx pct us) pds) := ⟨_, rfl⟩
                  rw [← hus3] at o1 ⊢
                  rw [← hgt] at ot
                  obtain ⟨nx2, hnx2⟩ : ∃ z : Int, z = (((pct + 1) % 16384 : Nat) : Int) := ⟨_, rfl⟩
                  rw [← hnx2]
                  have hWle : w0.heap.size ≤ W.heap.size := hS.bel.size
                  have o1 := ownsRow_mono o1 hWle
                  have ot := ownsRow_mono ot hWle
                  have hst : InvK c0 (N + y + 1) (y + 1) K m b u nx2 us3 ∧ gt = if b = true ∧ y + 1 = K then u else [] := by
                    rw [hus3, hgt, hnx2]; exact Hst.out
                  clear hus3 hgt hnx2 Hst
                  have hl3 : us3.length = n1 := by have := o1.1; rw [vb_len, Nat.mul_one] at this; exact this
                  have hlg : gt.length = tn := by have := ot.1; rw [vb_len, Nat.mul_one] at this; exact this
                  have hS := hS.below b1
                  have ol := ownsRow_below ol b1
                  have hG := hG.to (W' := V1) fun p h => ownsRow_below h b1
                  have ou := ownsRow_below ou b1
                  have hjr := row_below hjr b1
                  clear b1 hjo hpo HB
                  have z0 : V1.cell? ⟨jb, 0, none⟩ = some (.int .i64 9) := by rw [cell_of_row _ _ _ _ _ _ hjr]; rfl
                  have z1 : V1.cell? ⟨jb, 1, none⟩ = some (.int .i64 nx) := by rw [cell_of_row _ _ _ _ _ _ hjr]; rfl
                  have z2 : V1.cell? ⟨jb, 2, none⟩ = some (.bool (opn us)) := by rw [cell_of_row _ _ _ _ _ _ hjr]; rfl
                  have z3 : V1.cell? ⟨jb, 3, none⟩ = some (.slice ja jn jcp) := by rw [cell_of_row _ _ _ _ _ _ hjr]; rfl
                  have fz := frozen_row hjr
                  refine wpTL_nil ?_
                  repeat (refine wpTL_do rfl (fun w' hw' => (by go_simp; rfl)) ?_; simp only [Act.put, List.setIfInBounds_toArray, List.set_cons_succ, List.set_cons_zero])
                  refine wpTL_call rfl (fun K hK => ?_)
                  go_wp2_with fail
                  obtain ⟨A9, g9⟩ := four hjr (.int .i64 9) (.int .i64 nx2) (.bool (opn us3)) (.slice a1 n1 k1)
                  refine hK _ _ g9 ?_
                  clear hK K
                  try simp only [Act.put, List.setIfInBounds_toArray, List.set_cons_succ, List.set_cons_zero]
                  have ol := ol.kept g9 (own_ne ol hjr (by decide))
                  have hG := hG.to (W' := (((V1.setCell ⟨jb, 0, none⟩ (.int .i64 9)).setCell ⟨jb, 1, none⟩ (.int .i64 nx2)).setCell ⟨jb, 2, none⟩ (.bool (opn us3))).setCell ⟨jb, 3, none⟩ (.slice a1 n1 k1)) fun p h => h.kept g9 (own_ne h hjr (by decide))
                  have ou := ou.kept g9 (own_ne ou hjr (by decide))
                  have ot := ot.kept g9 (own_ne ot hjr (by decide))
                  have hS := hS.join hl3 A9 o1 g9
                  clear z0 z1 z2 z3 fz g9 A9 o1 hjr
                  generalize (((V1.setCell ⟨jb, 0, none⟩ (.int .i64 9)).setCell ⟨jb, 1, none⟩ (.int .i64 nx2)).setCell ⟨jb, 2, none⟩ (.bool (opn us3))).setCell ⟨jb, 3, none⟩ (.slice a1 n1 k1) = V2 at *
                  repeat (refine wpTL_do rfl (fun w' hw' => (by go_simp; rfl)) ?_; simp only [Act.put, List.setIfInBounds_toArray, List.set_cons_succ, List.set_cons_zero])
                  refine wpTL_nil ?_
                  by_cases hbk : b = true ∧ y + 1 = K
                  · rw [if_pos hbk] at hst
                    obtain ⟨hI3, hgu⟩ := hst
                    have Hgu := hid hgu
                    have t6 : (0 : Int) < (tn : Int) := by rw [← hlg, hgu, huL]; omega
                    clear hgu
                    go_wp2_with (at_builtin; refine hold ?_)
                    unfold Hid
                    have hSa := hS.below (below_alloc V2 (.cells #[.slice ta tn tc] 23))
                    refine wpList_append_own_at _ rfl _ _ 33 rfl w0.heap.size 23 i1 (.slice none 0 0) 1 24 Try.underlying33 hi' hz0' hz1' hz2' rfl (by decide) (.slice ga R'.length gc) R'.length (rcs R') rfl hSa.og ⟨V2.heap.size, 0, none⟩ 1 1 [.slice ta tn tc] rfl rfl (one_new V2 _ 23) (by simp [Value.oneCell']) (by unfold maxLen; omega) (by omega) hSa.bel.size ?_
                    intro v' V3 oV gV _ hat
                    obtain ⟨va', vc', rfl, _, _⟩ := own_slice oV
                    have bX := below_alloc V2 (.cells #[.slice ta tn tc] 23)
                    have ol := (ownsRow_below ol bX).kept gV (own_apart (ownsRow_below ol bX) hSa.og (by decide))
                    have hG := hG.to (W' := V3) fun p h => (ownsRow_below h bX).kept gV (own_apart (ownsRow_below h bX) hSa.og (by decide))
                    have ou := (ownsRow_below ou bX).kept gV (own_apart (ownsRow_below ou bX) hSa.og (by decide))
                    have hS3 := hSa.addGot ((ta, tn, tc), gt) oV gV hat (ownsRow_below ot bX)
                    clear oV gV hat hS hSa bX ot
                    go_wp2_with fail
                    go_roundw
                    case rel => exact ⟨y + 1, b, va', vc', R' ++ [((ta, tn, tc), gt)], nx2, us3, by go_num, by rw [List.length_append]; rfl, by first | rfl | rw [hbk.1], by go_num, by omega, hI3, by rw [conts_snoc, hR'.out, if_neg (by omega), if_pos hbk, List.append_nil, Hgu.out]; rfl, by rw [List.length_append]; exact Nat.succ_le_succ hR3, (fun h => by omega), hS3, ol, hG, ou⟩
                    case measure => simp [intOf]; omega
                  · rw [if_neg hbk] at hst
                    obtain ⟨hI3, hgu⟩ := hst
                    have t6 : tn = 0 := by rw [← hlg, hgu]; rfl
                    subst t6
                    go_wp2_with fail
                    go_roundw
                    case rel => exact ⟨y + 1, b, ga, gc, R', nx2, us3, by go_num, rfl, rfl, by go_num, by omega, hI3, by rw [hR'.out, if_neg (by omega), if_neg hbk]; rfl, hR1, fun _ => hR3, hS, ol, hG, ou⟩
                    case measure => simp [intOf]; omega
                · have hI2 := invK_lost hI hN2
                  go_wp2_with fail
                  go_roundw
                  case rel => exact ⟨k + 1, false, ga, gc, R', nx, us, by go_num, rfl, rfl, by go_num, by omega, hI2, by rw [hR'.out, if_neg (by omega), if_neg (by simp)]; rfl, hR1, fun _ => hR3, hS, ol, hG, ou⟩
                  case measure => simp [intOf]; omega
          · obtain rfl : k = K := by omega
            have t4 : ¬ (k : Int) < (k : Int) := by omega
            cases b
            · have HR' := hid (hR'.out.trans (by rw [if_neg (by simp), List.append_nil]))
              clear hR'
              go_wp2_with fail
              go_roundw
              case rel => exact ⟨i + 1, N + k, ct2, ga, wa, gc, wc, R', Q, nx, us, rfl, rfl, rfl, rfl, by go_num, by omega, by omega, by omega, hR1, by rw [HR'.out]; exact HRQ.out, by rw [Hct2.out, hct.out]; show _ = _; omega, hI.1, hS⟩
              case measure => simp [intOf]; omega
            · have HR' := hid (hR'.out.trans (by rw [if_pos ⟨rfl, rfl⟩]))
              clear hR'
              have hQi : Q.length ≤ i := by
                have := congrArg List.length HRQ.out
                simp only [conts, List.length_map] at this
                omega
              go_wp2_with (at_builtin; refine hold ?_)
              unfold Hid
              have hSa := hS.below (below_alloc wr (.cells #[.slice u1 xu u2] 23))
              refine wpList_append_own_at _ rfl _ _ 33 rfl w0.heap.size 23 i1 (.slice none 0 0) 1 24 Try.underlying33 hi' hz0' hz1' hz2' rfl (by decide) (.slice wa Q.length wc) Q.length (rcs Q) rfl hSa.ow ⟨wr.heap.size, 0, none⟩ 1 1 [.slice u1 xu u2] rfl rfl (one_new wr _ 23) (by simp [Value.oneCell']) (by unfold maxLen; omega) (by omega) hSa.bel.size ?_
              intro v' V3 oV gV _ hat
              obtain ⟨va', vc', rfl, _, _⟩ := own_slice oV
              have hS3 := hSa.addWant ((u1, xu, u2), u) oV gV hat (ownsRow_below ou (below_alloc _ _))
              have hQ2 : conts R' = conts (Q ++ [((u1, xu, u2), u)]) := by rw [conts_snoc, HR'.out, HRQ.out]
              have HQ2 := hid hQ2
              clear oV gV hat hS hSa ou hQ2 hQi
              go_wp2_with fail
              go_roundw
              case rel => exact ⟨i + 1, N + k, ct2, ga, va', gc, vc', R', Q ++ [((u1, xu, u2), u)], nx, us, rfl, rfl, by rw [List.length_append]; rfl, rfl, by go_num, by omega, by omega, by omega, hR1, HQ2.out, by rw [Hct2.out, hct.out]; show _ = _; omega, hI.1, hS3⟩
              case measure => simp [intOf]; omega
    · have hend : ¬ ((i : Int) < (un : Int) ∧ (i : Int) < 40) := by omega
      have hQl : Q.length = R.length := by have := congrArg List.length hRQ; simpa [conts] using this.symm
      have HRQ := hid hRQ
      have hne : ((R.length : Int) != (Q.length : Int)) = false := by rw [hQl]; simp
      have HQl := hid hQl
      clear hRQ hct hI hN hi hz0 hz1 hz2 hi' hz0' hz1' hz2' hQl
      by_cases ha : (i : Int) < (un : Int)
      · have hb : ¬ (i : Int) < 40 := fun h => hend ⟨ha, h⟩
        clear hend
        go_wp2_with fail
        go_loopw [25] (fun v wr => ∃ k : Nat, v = .int .i64 (k : Int) ∧ k ≤ R.length ∧ St w0 wr jb ga wa gc wc R Q nx us) (fun v _ => R.length - (intOf v).toNat)
        case atStart => exact ⟨0, rfl, Nat.zero_le _, hS⟩
        case round =>
          clear hS
          obtain ⟨k, rfl, hk, hS⟩ := hrel
          by_cases hkl : k < R.length
          · have tk : (k : Int) < (R.length : Int) := by omega
            have hkq : k < Q.length := by rw [HQl.out]; exact hkl
            obtain ⟨gb, hga⟩ := own_addr hS.og (by omega)
            obtain ⟨qb, hqa⟩ := own_addr hS.ow (by omega)
            subst hga hqa
            have c1 : wr.cell? ⟨gb, k, none⟩ = some (.slice R[k].1.1 R[k].1.2.1 R[k].1.2.2) := by rw [hS.og.cellAt k (by omega), rcs, List.getElem?_map, List.getElem?_eq_getElem hkl]; rfl
            have c2 : wr.cell? ⟨qb, k, none⟩ = some (.slice Q[k].1.1 Q[k].1.2.1 Q[k].1.2.2) := by rw [hS.ow.cellAt k (by omega), rcs, List.getElem?_map, List.getElem?_eq_getElem hkq]; rfl
            have hcc : R[k].2 = Q[k].2 := by
              have h1 : (conts R)[k]? = (conts Q)[k]? := congrArg (fun l => l[k]?) HRQ.out
              rw [conts, conts, List.getElem?_map, List.getElem?_map, List.getElem?_eq_getElem hkl, List.getElem?_eq_getElem hkq] at h1
              exact Option.some.inj h1
            have k1 := run_str_ext (P := Try.prog) 23 5 9 Try.underlying23 Try.underlying5 Try.underlying9 (Rd.ofOwn (hS.rg _ (List.getElem_mem hkl)))
            have k2 := run_str_ext (P := Try.prog) 23 5 9 Try.underlying23 Try.underlying5 Try.underlying9 (Rd.ofOwn (hS.rw_ _ (List.getElem_mem hkq)))
            rw [← hcc] at k2
            clear HQl HRQ hcc
            generalize R[k] = rk at *
            generalize Q[k] = qk at *
            obtain ⟨Wd, hWd⟩ : ∃ Wd : World, Wd = { wr with drawn := wr.drawn + 1 } := ⟨_, rfl⟩
            have eW : wr.drew = Wd := hWd.symm
            have c1 : wr.drew.cell? ⟨gb, k, none⟩ = _ := c1
            have c2 : wr.drew.cell? ⟨qb, k, none⟩ = _ := c2
            have kk1 := k1 wr.drew ⟨rfl, rfl, rfl, Nat.le_refl _, fun _ _ => rfl⟩
            have kk2 := k2 wr.drew ⟨rfl, rfl, rfl, Nat.le_refl _, fun _ _ => rfl⟩
            have hS := hS.below ((Below.refl _ wr).drew)
            rw [eW] at c1 c2 kk1 kk2 hS
            generalize rk.1.1 = ra, rk.1.2.1 = rn, rk.1.2.2 = rc, strB rk.2 = rs at *
            generalize qk.1.1 = qa, qk.1.2.1 = qn, qk.1.2.2 = qc at *
            clear k1 k2 eW
            have HS := hid hS
            clear hS
            go_upto_region 42 with fail
            refine wp_region_still_lit (by kernel_rfl) (by kernel_rfl) ?_
            rw [← hWd]
            clear hWd
            repeat still_step
            refine wpStill_nil ?_
            go_wp2_with fail
            go_roundw
            case rel => exact ⟨k + 1, by go_num, by omega, HS.out⟩
            case measure => simp [intOf]; omega
          · have tk : ¬ (k : Int) < (R.length : Int) := by omega
            clear HQl HRQ
            go_wp2_with fail
            go_ret
            exact ⟨rfl, hS.bel⟩
      · clear hend
        go_wp2_with fail
        go_loopw [25] (fun v wr => ∃ k : Nat, v = .int .i64 (k : Int) ∧ k ≤ R.length ∧ St w0 wr jb ga wa gc wc R Q nx us) (fun v _ => R.length - (intOf v).toNat)
        case atStart => exact ⟨0, rfl, Nat.zero_le _, hS⟩
        case round =>
          clear hS
          obtain ⟨k, rfl, hk, hS⟩ := hrel
          by_cases hkl : k < R.length
          · have tk : (k : Int) < (R.length : Int) := by omega
            have hkq : k < Q.length := by rw [HQl.out]; exact hkl
            obtain ⟨gb, hga⟩ := own_addr hS.og (by omega)
            obtain ⟨qb, hqa⟩ := own_addr hS.ow (by omega)
            subst hga hqa
            have c1 : wr.cell? ⟨gb, k, none⟩ = some (.slice R[k].1.1 R[k].1.2.1 R[k].1.2.2) := by rw [hS.og.cellAt k (by omega), rcs, List.getElem?_map, List.getElem?_eq_getElem hkl]; rfl
            have c2 : wr.cell? ⟨qb, k, none⟩ = some (.slice Q[k].1.1 Q[k].1.2.1 Q[k].1.2.2) := by rw [hS.ow.cellAt k (by omega), rcs, List.getElem?_map, List.getElem?_eq_getElem hkq]; rfl
            have hcc : R[k].2 = Q[k].2 := by
              have h1 : (conts R)[k]? = (conts Q)[k]? := congrArg (fun l => l[k]?) HRQ.out
              rw [conts, conts, List.getElem?_map, List.getElem?_map, List.getElem?_eq_getElem hkl, List.getElem?_eq_getElem hkq] at h1
              exact Option.some.inj h1
            have k1 := run_str_ext (P := Try.prog) 23 5 9 Try.underlying23 Try.underlying5 Try.underlying9 (Rd.ofOwn (hS.rg _ (List.getElem_mem hkl)))
            have k2 := run_str_ext (P := Try.prog) 23 5 9 Try.underlying23 Try.underlying5 Try.underlying9 (Rd.ofOwn (hS.rw_ _ (List.getElem_mem hkq)))
            rw [← hcc] at k2
            clear HQl HRQ hcc
            generalize R[k] = rk at *
            generalize Q[k] = qk at *
            obtain ⟨Wd, hWd⟩ : ∃ Wd : World, Wd = { wr with drawn := wr.drawn + 1 } := ⟨_, rfl⟩
            have eW : wr.drew = Wd := hWd.symm
            have c1 : wr.drew.cell? ⟨gb, k, none⟩ = _ := c1
            have c2 : wr.drew.cell? ⟨qb, k, none⟩ = _ := c2
            have kk1 := k1 wr.drew ⟨rfl, rfl, rfl, Nat.le_refl _, fun _ _ => rfl⟩
            have kk2 := k2 wr.drew ⟨rfl, rfl, rfl, Nat.le_refl _, fun _ _ => rfl⟩
            have hS := hS.below ((Below.refl _ wr).drew)
            rw [eW] at c1 c2 kk1 kk2 hS
            generalize rk.1.1 = ra, rk.1.2.1 = rn, rk.1.2.2 = rc, strB rk.2 = rs at *
            generalize qk.1.1 = qa, qk.1.2.1 = qn, qk.1.2.2 = qc at *
            clear k1 k2 eW
            have HS := hid hS
            clear hS
            go_upto_region 42 with fail
            refine wp_region_still_lit (by kernel_rfl) (by kernel_rfl) ?_
            rw [← hWd]
            clear hWd
            repeat still_step
            refine wpStill_nil ?_
            go_wp2_with fail
            go_roundw
            case rel => exact ⟨k + 1, by go_num, by omega, HS.out⟩
            case measure => simp [intOf]; omega
          · have tk : ¬ (k : Int) < (R.length : Int) := by omega
            clear HQl HRQ
            go_wp2_with fail
            go_ret
            exact ⟨rfl, hS.bel⟩
end Go.Proofs.Ytbclokglkcbmkaa
