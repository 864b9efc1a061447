/- MemoryHolds: the walk of the law. -/
import Derived.Test.YtgacnbildligjaaDoorRemember
import Derived.Test.YtgacnbildligjaaDoorOpenInts
import Derived.Test.YtgacnbildligjaaDoorOpenRow
import Derived.Outline
namespace Go.Proofs.YtgacnbildligjaaDoor
set_option linter.unusedVariables false
open Go.RowKit

theorem Tryd.info33 : (Tryd.prog.info? 33).map (fun i => (i.zero, i.size, i.bytes)) = some (some (.agg #[.int .i64 0, .int .i64 0, .int .i64 0]), 3, 24) := by kernel_rfl
abbrev RI := (Option Addr × Nat × Nat) × List Int
/-- the hits that came in -/
structure RdH (w : World) (ao : Option Addr) (n : Nat) (f : Nat → RI) : Prop where
  mem : 0 < n → ∃ b off, ao = some ⟨b, off, none⟩ ∧ b < w.heap.size ∧ ∀ j, j < n → w.cell? ⟨b, off + j, none⟩ = some (.slice (f j).1.1 (f j).1.2.1 (f j).1.2.2)
  each : ∀ j, j < n → Rd w (f j).1.1 (f j).1.2.1 (f j).1.2.2 (vz (f j).2) ∧ ∀ z ∈ (f j).2, I64 z
theorem new3 (w : World) (a b c : Nat) : ∀ (j : Nat) (x : Value), (pk3 (a, b, c))[j]? = some x → (w.alloc (.cells #[.int .i64 (a : Int), .int .i64 (b : Int), .int .i64 (c : Int)] 33)).cell? ((⟨w.heap.size, 0, none⟩ : Addr).add j) = some x := new_cells w (pk3 (a, b, c)) 33

/-- how it stands while pokes are put in a row -/
structure PkSt (w0 W : World) (N : Nat) (sa : Option Addr) (sc : Nat) (ps : List Pk) (rs : Nat → Option Nat) (σ : Wd) : Prop where
  bel : Below w0.heap.size w0 W
  own : W.ownsRow w0.heap.size 33 3 (.slice sa ps.length sc) ps.length (ps.flatMap pk3)
  run : Run N ps rs σ

theorem PkSt.push {w0 W W8 : World} {N : Nat} {sa va : Option Addr} {sc vc : Nat} {ps : List Pk} {rs : Nat → Option Nat} {σ σ' : Wd} {r : Option Nat} {o : Obj} (h : PkSt w0 W N sa sc ps rs σ) (p : Pk) (hp : Ok N p σ σ' r)
    (oV : W8.ownsRow w0.heap.size 33 3 (.slice va (ps.length + 1) vc) (ps.length + 1) (ps.flatMap pk3 ++ pk3 p)) (gV : (W.alloc o).grownBy W8 (Value.slice sa ps.length sc).ownBlock) :
    PkSt w0 W8 N va vc (ps ++ [p]) (fun k => if k = ps.length then r else rs k) σ' := by
  have g7 := below_alloc W o
  have o7 := ownsRow_below h.own g7
  have hB7 := h.bel.trans (g7.mono h.bel.size)
  refine ⟨hB7.grown gV hB7.size (fun k e => (o7.lt k e).1), ?_, run_snoc h.run hp⟩
  rw [List.length_append, List.length_singleton, flat_snoc]
  exact oV

/-- the words as they are asked for -/
def X (ls : List Int) (j : Nat) : Nat := pk (ls.getD j 0) 4294967296
theorem X_lt (ls : List Int) (j : Nat) : X ls j < 2 ^ 32 := pk_lt _ _ (by decide)

set_option maxHeartbeats 4000000 in
set_option maxRecDepth 100000 in
theorem law_walk4 (la ha : Option Addr) (ln lc hn hc : Nat) (ls : List Int) (f : Nat → RI) (w0 : World) (hL : Rd w0 la ln lc (vz ls)) (hls : ∀ z ∈ ls, I64 z) (hH : RdH w0 ha hn f) (hT : TabAt w0) (hb1 : ln ≤ 17592186044416) (hb2 : hn ≤ 17592186044416) :
    Calls Tryd.prog 4 #[.slice la ln lc, .slice ha hn hc] w0 fun e w' => e = .returned (.bool true) ∧ Below w0.heap.size w0 w' := by
  obtain ⟨i0, hi, hz0, hz1, hz2⟩ := info_parts Tryd.info33
  obtain ⟨N, hN⟩ : ∃ N, N = ln + 1 := ⟨_, rfl⟩
  have e1 : (1 : Int) + (ln : Int) = (N : Int) := by omega
  have HN := hid hN
  go_enter Tryd.func4, Tryd.ntmps4
  by_cases hbig : 40 < N ∨ 30 < hn
  · rcases Nat.lt_or_ge 40 N with h | h
    · have t1 : (40 : Int) < (N : Int) := by omega
      clear hN
      go_wp2_with fail
      go_ret
      exact ⟨rfl, Below.refl _ _⟩
    · have t1 : ¬ (40 : Int) < (N : Int) := by omega
      have t2 : (30 : Int) < (hn : Int) := by omega
      clear hN
      go_wp2_with fail
      go_ret
      exact ⟨rfl, Below.refl _ _⟩
  · have t1 : ¬ (40 : Int) < (N : Int) := by omega
    have t2 : ¬ (30 : Int) < (hn : Int) := by omega
    have hNb : 1 ≤ N ∧ N ≤ 40 := by omega
    have hhb : hn ≤ 30 := by omega
    have hlN : ln < N := by omega
    clear hN hbig
    go_wp2_with fail
    clear t1 t2
    go_loopw [6, 7] (fun s' i' wr => ∃ (i : Nat) (ps : List Pk) (rs : Nat → Option Nat) (σ : Wd) (sa : Option Addr) (sc : Nat), s' = .slice sa ps.length sc ∧ i' = .int .i64 (i : Int) ∧ i ≤ ln ∧ ps.length = i ∧ Hid (∀ j, σ j = if j < i then (X ls j, false) else (0, false)) ∧ PkSt w0 wr N sa sc ps rs σ) (fun _ i' _ => ln - (intOf i').toNat)
    case atStart => exact ⟨0, [], fun _ => none, _, none, 0, rfl, rfl, Nat.zero_le _, rfl, fun j => (by rw [if_neg (by omega)]), ⟨Below.refl _ _, World.ownsRow_nil _ _ _ _, run_nil _ _⟩⟩
    case round =>
      obtain ⟨i, ps, rs, σ, sa, sc, rfl, rfl, hi1, hpl, hσ, hS⟩ := hrel
      by_cases hlt : i < ln
      · obtain ⟨lb, lo, rfl, hlb, hlcell⟩ := hL.cellz i hlt
        have t1 : (i : Int) < (ln : Int) := by omega
        have hlc := (hS.bel.cell (p := ⟨lb, lo + i, none⟩) hlb).trans hlcell
        have hz := getD_i64 hls i
        have HX : Hid (X ls i = pk (ls.getD i 0) 4294967296) := rfl
        have HP := hid hpl
        have hpb : ps.length ≤ 40 := by omega
        clear hpl hlcell
        generalize ls.getD i 0 = z at *
        go_wp2_with fail
        refine (pick_any z 4294967296 wr hz.1 hz.2 (by decide) (by decide)).mono ?_
        rintro e w' ⟨x, rfl, hx, Hx, rfl⟩
        have hx : x < 2 ^ 32 := hx
        have HXx : Hid (x = X ls i) := Hx.out.trans HX.out.symm
        have Hxl := hid hx
        clear Hx HX hx
        go_wp2_with (at_builtin; refine hold ?_)
        unfold Hid
        have g7 := below_alloc wr (.cells #[.int .i64 (2 : Nat), .int .i64 (i : Nat), .int .i64 (x : Nat)] 33)
        have o7 := ownsRow_below hS.own g7
        refine wpList_append_own_at _ rfl _ _ 31 rfl w0.heap.size 33 i0 _ 3 24 Tryd.underlying31 hi hz0 hz1 hz2 rfl (by decide) (.slice sa ps.length sc) ps.length (ps.flatMap pk3) rfl o7 ⟨wr.heap.size, 0, none⟩ 1 1 (pk3 (2, i, x)) rfl rfl (new3 wr 2 i x) (by simp [pk3, Value.oneCell']) (by unfold maxLen; omega) (by omega) (Nat.le_trans hS.bel.size g7.size) ?_
        intro v' W8 oV gV _ _
        obtain ⟨va', vc', rfl, _, _⟩ := own_slice oV
        have hS8 := hS.push (2, i, x) (Ok.store i x σ (upd σ i x false) (by omega) Hxl.out (upd_upd _ _ _ _)) oV gV
        clear gV o7 g7 hS oV
        go_wp2_with fail
        go_roundw
        case rel => exact ⟨i + 1, ps ++ [(2, i, x)], _, upd σ i x false, va', vc', by rw [List.length_append]; rfl, by go_num, by omega, by rw [List.length_append, HP.out]; rfl, (fun j => by
            unfold upd
            by_cases e : j = i
            · subst e; rw [if_pos rfl, if_pos (by omega), HXx.out]
            · rw [if_neg e, hσ.out j]
              by_cases h : j < i
              · rw [if_pos h, if_pos (by omega)]
              · rw [if_neg h, if_neg (by omega)]), hS8⟩
        case measure => simp [intOf]; omega
      · obtain rfl : ln = i := by omega
        have t1 : ¬ (ln : Int) < (ln : Int) := by omega
        have HP := hid hpl
        have hpb : ps.length ≤ ln := by omega
        have hσ2 : Hid ((∀ j, j < ln → (σ j).1 = X ls j) ∧ ∀ j, (σ j).2 = false) := by
          refine ⟨fun j hj => by rw [hσ.out j, if_pos hj], fun j => ?_⟩
          rw [hσ.out j]; split <;> rfl
        clear hσ hpl HP
        go_wp2_with fail
        go_loopw [6, 8] (fun s' i' wr => ∃ (k : Nat) (ps : List Pk) (rs : Nat → Option Nat) (σ : Wd) (sa : Option Addr) (sc : Nat), s' = .slice sa ps.length sc ∧ i' = .int .i64 (k : Int) ∧ k ≤ hn ∧ ps.length ≤ ln + k * 41 ∧ Hid ((∀ j, j < ln → (σ j).1 = X ls j) ∧ ∀ j, j < N → (σ j).2 = false) ∧ PkSt w0 wr N sa sc ps rs σ) (fun _ k' _ => hn - (intOf k').toNat)
        case atStart => exact ⟨0, ps, rs, σ, sa, sc, rfl, rfl, Nat.zero_le _, by omega, ⟨hσ2.out.1, fun j _ => hσ2.out.2 j⟩, hS⟩
        case round =>
          clear hS hσ2 hpb
          obtain ⟨k, ps, rs, σ, sa, sc, rfl, rfl, hk1, hpl, hσ, hS⟩ := hrel
          have hpl2 : ps.length ≤ 2000 := by
            have := Nat.mul_le_mul_right 41 hk1
            omega
          by_cases hkl : k < hn
          · obtain ⟨hb, ho, rfl, hhbl, hhcell⟩ := hH.mem (by omega)
            have t2 : (k : Int) < (hn : Int) := by omega
            have hrow := hH.each k hkl
            have hcell := hhcell k hkl
            clear hhcell
            generalize f k = fk at *
            obtain ⟨⟨xa, xn, xc⟩, xs⟩ := fk
            simp only at hrow hcell
            go_wp2_with fail
            go_loopw [6, 9] (fun s' q' wr => ∃ (q : Nat) (ps : List Pk) (rs : Nat → Option Nat) (σ : Wd) (sa : Option Addr) (sc : Nat), s' = .slice sa ps.length sc ∧ q' = .int .i64 (q : Int) ∧ q ≤ N ∧ ps.length ≤ ln + k * 41 + q ∧ Hid ((∀ j, j < ln → (σ j).1 = X ls j) ∧ ∀ j, q ≤ j → j < N → (σ j).2 = false) ∧ PkSt w0 wr N sa sc ps rs σ) (fun _ q' _ => N - (intOf q').toNat)
            case atStart => exact ⟨0, ps, rs, σ, sa, sc, rfl, rfl, Nat.zero_le _, by omega, ⟨hσ.out.1, fun j _ hj => hσ.out.2 j hj⟩, hS⟩
            case round =>
              clear hS hσ hpl hpl2
              obtain ⟨q, ps, rs, σ, sa, sc, rfl, rfl, hq1, hpl, hσ, hS⟩ := hrel
              have hpl2 : ps.length ≤ 2000 := by
                have := Nat.mul_le_mul_right 41 hk1
                omega
              have hc1 := (hS.bel.cell (p := ⟨hb, ho + k, none⟩) hhbl).trans hcell
              by_cases hq : q < xn ∧ q < N
              · obtain ⟨hq2, hq3⟩ := hq
                have t3 : (q : Int) < (xn : Int) := by omega
                have t4 : (q : Int) < (N : Int) := by omega
                obtain ⟨xb, xo, rfl, hxb, hxcell⟩ := hrow.1.cellz q hq2
                have hc2 := (hS.bel.cell (p := ⟨xb, xo + q, none⟩) hxb).trans hxcell
                have hz := getD_i64 hrow.2 q
                generalize xs.getD q 0 = z at *
                go_wp2_with fail
                refine (pick_any z 39 wr hz.1 hz.2 (by decide) (by decide)).mono ?_
                rintro e w' ⟨x, rfl, hx, Hx, rfl⟩
                have hx : x < 39 := hx
                clear Hx
                go_wp2_with (at_builtin; refine hold ?_)
                unfold Hid
                have g7 := below_alloc wr (.cells #[.int .i64 (3 : Nat), .int .i64 (q : Nat), .int .i64 (x : Nat)] 33)
                have o7 := ownsRow_below hS.own g7
                refine wpList_append_own_at _ rfl _ _ 31 rfl w0.heap.size 33 i0 _ 3 24 Tryd.underlying31 hi hz0 hz1 hz2 rfl (by decide) (.slice sa ps.length sc) ps.length (ps.flatMap pk3) rfl o7 ⟨wr.heap.size, 0, none⟩ 1 1 (pk3 (3, q, x)) rfl rfl (new3 wr 3 q x) (by simp [pk3, Value.oneCell']) (by unfold maxLen; omega) (by omega) (Nat.le_trans hS.bel.size g7.size) ?_
                intro v' W8 oV gV _ _
                obtain ⟨va', vc', rfl, _, _⟩ := own_slice oV
                have hS8 := hS.push (3, q, x) (Ok.turn q x σ (upd σ q (σ q).1 true) hq3 hx (hσ.out.2 q (Nat.le_refl _) hq3) (upd_upd _ _ _ _)) oV gV
                clear gV o7 g7 hS oV
                go_wp2_with fail
                go_roundw
                case rel => exact ⟨q + 1, ps ++ [(3, q, x)], _, upd σ q (σ q).1 true, va', vc', by rw [List.length_append]; rfl, by go_num, by omega, by rw [List.length_append]; show _ + 1 ≤ _; omega, ⟨fun j hj => (by
                    unfold upd
                    by_cases e : j = q
                    · subst e; rw [if_pos rfl]; exact hσ.out.1 j hj
                    · rw [if_neg e]; exact hσ.out.1 j hj), fun j h1 h2 => (by
                    unfold upd
                    rw [if_neg (by omega)]
                    exact hσ.out.2 j (by omega) h2)⟩, hS8⟩
                case measure => simp [intOf]; omega
              · have hstop : Hid (¬ (q < xn ∧ q < N)) := hq
                by_cases hq2 : q < xn
                · have t3 : (q : Int) < (xn : Int) := by omega
                  have t4 : ¬ (q : Int) < (N : Int) := by omega
                  clear hq
                  go_wp2_with (at_builtin; refine hold ?_)
                  unfold Hid
                  have g7 := below_alloc wr (.cells #[.int .i64 (4 : Nat), .int .i64 (0 : Nat), .int .i64 (N : Nat)] 33)
                  have o7 := ownsRow_below hS.own g7
                  refine wpList_append_own_at _ rfl _ _ 31 rfl w0.heap.size 33 i0 _ 3 24 Tryd.underlying31 hi hz0 hz1 hz2 rfl (by decide) (.slice sa ps.length sc) ps.length (ps.flatMap pk3) rfl o7 ⟨wr.heap.size, 0, none⟩ 1 1 (pk3 (4, 0, N)) rfl rfl (new3 wr 4 0 N) (by simp [pk3, Value.oneCell']) (by unfold maxLen; omega) (by omega) (Nat.le_trans hS.bel.size g7.size) ?_
                  intro v' W8 oV gV _ _
                  obtain ⟨va', vc', rfl, _, _⟩ := own_slice oV
                  have hS8 := hS.push (4, 0, N) (Ok.scrub 0 σ) oV gV
                  clear gV o7 g7 hS oV
                  go_wp2_with fail
                  go_roundw
                  case rel => exact ⟨k + 1, ps ++ [(4, 0, N)], _, clean σ N, va', vc', by rw [List.length_append]; rfl, by go_num, by omega, by rw [List.length_append]; show _ + 1 ≤ _; omega, ⟨fun j hj => hσ.out.1 j hj, fun j hj => (by unfold clean; rw [if_pos hj])⟩, hS8⟩
                  case measure => simp [intOf]; omega
                · have t3 : ¬ (q : Int) < (xn : Int) := by omega
                  clear hq
                  go_wp2_with (at_builtin; refine hold ?_)
                  unfold Hid
                  have g7 := below_alloc wr (.cells #[.int .i64 (4 : Nat), .int .i64 (0 : Nat), .int .i64 (N : Nat)] 33)
                  have o7 := ownsRow_below hS.own g7
                  refine wpList_append_own_at _ rfl _ _ 31 rfl w0.heap.size 33 i0 _ 3 24 Tryd.underlying31 hi hz0 hz1 hz2 rfl (by decide) (.slice sa ps.length sc) ps.length (ps.flatMap pk3) rfl o7 ⟨wr.heap.size, 0, none⟩ 1 1 (pk3 (4, 0, N)) rfl rfl (new3 wr 4 0 N) (by simp [pk3, Value.oneCell']) (by unfold maxLen; omega) (by omega) (Nat.le_trans hS.bel.size g7.size) ?_
                  intro v' W8 oV gV _ _
                  obtain ⟨va', vc', rfl, _, _⟩ := own_slice oV
                  have hS8 := hS.push (4, 0, N) (Ok.scrub 0 σ) oV gV
                  clear gV o7 g7 hS oV
                  go_wp2_with fail
                  go_roundw
                  case rel => exact ⟨k + 1, ps ++ [(4, 0, N)], _, clean σ N, va', vc', by rw [List.length_append]; rfl, by go_num, by omega, by rw [List.length_append]; show _ + 1 ≤ _; omega, ⟨fun j hj => hσ.out.1 j hj, fun j hj => (by unfold clean; rw [if_pos hj])⟩, hS8⟩
                  case measure => simp [intOf]; omega
          · obtain rfl : hn = k := by omega
            have t2 : ¬ (hn : Int) < (hn : Int) := by omega
            clear hkl
            go_wp2_with fail
            obtain ⟨M, hM⟩ : ∃ M, M = ps.length := ⟨_, rfl⟩
            have HM := hid hM
            have hMb : M ≤ 2000 := by omega
            clear hM hpl hpl2
            go_wp2_with fail
            go_loopw [6, 10] (fun s' q' wr => ∃ (q : Nat) (ps : List Pk) (rs : Nat → Option Nat) (σ : Wd) (sa : Option Addr) (sc : Nat), s' = .slice sa ps.length sc ∧ q' = .int .i64 (q : Int) ∧ q ≤ ln ∧ Hid (ps.length = M + q) ∧ Hid ((∀ j, j < ln → (σ j).1 = X ls j) ∧ ∀ j, j < q → rs (M + j) = some (X ls j)) ∧ PkSt w0 wr N sa sc ps rs σ) (fun _ q' _ => ln - (intOf q').toNat)
            case atStart => exact ⟨0, ps, rs, σ, sa, sc, rfl, rfl, Nat.zero_le _, HM.out.symm, ⟨hσ.out.1, fun j hj => absurd hj (by omega)⟩, hS⟩
            case round =>
              clear hS hσ HM
              obtain ⟨q, ps, rs, σ, sa, sc, rfl, rfl, hq1, hpl, hσ, hS⟩ := hrel
              have hpl2 : ps.length ≤ 3000 := by have := hpl.out; omega
              by_cases hq : q < ln
              · have t3 : (q : Int) < (ln : Int) := by omega
                go_wp2_with (at_builtin; refine hold ?_)
                unfold Hid
                have g7 := below_alloc wr (.cells #[.int .i64 (1 : Nat), .int .i64 (q : Nat), .int .i64 (0 : Nat)] 33)
                have o7 := ownsRow_below hS.own g7
                refine wpList_append_own_at _ rfl _ _ 31 rfl w0.heap.size 33 i0 _ 3 24 Tryd.underlying31 hi hz0 hz1 hz2 rfl (by decide) (.slice sa ps.length sc) ps.length (ps.flatMap pk3) rfl o7 ⟨wr.heap.size, 0, none⟩ 1 1 (pk3 (1, q, 0)) rfl rfl (new3 wr 1 q 0) (by simp [pk3, Value.oneCell']) (by unfold maxLen; omega) (by omega) (Nat.le_trans hS.bel.size g7.size) ?_
                intro v' W8 oV gV _ _
                obtain ⟨va', vc', rfl, _, _⟩ := own_slice oV
                have hS8 := hS.push (1, q, 0) (Ok.load q 0 σ (upd σ q (σ q).1 false) (by omega) (upd_upd _ _ _ _)) oV gV
                clear gV o7 g7 hS oV
                go_wp2_with fail
                go_roundw
                case rel => exact ⟨q + 1, ps ++ [(1, q, 0)], _, upd σ q (σ q).1 false, va', vc', by rw [List.length_append]; rfl, by go_num, by omega, (by have := hpl.out; show (ps ++ [(1, q, 0)]).length = _; rw [List.length_append]; show ps.length + 1 = _; omega), ⟨fun j hj => (by
                    unfold upd
                    by_cases e : j = q
                    · subst e; rw [if_pos rfl]; exact hσ.out.1 j hj
                    · rw [if_neg e]; exact hσ.out.1 j hj), fun j hj => (by
                    by_cases e : j = q
                    · subst e; rw [if_pos (by have := hpl.out; omega), hσ.out.1 j hq]
                    · rw [if_neg (by have := hpl.out; omega)]; exact hσ.out.2 j (by omega))⟩, hS8⟩
                case measure => simp [intOf]; omega
              · obtain rfl : ln = q := by omega
                have t3 : ¬ (ln : Int) < (ln : Int) := by omega
                obtain ⟨T, hTe⟩ : ∃ T, T = ps.length := ⟨_, rfl⟩
                have hP : RdP wr sa T ps := ⟨hTe.symm, fun hn0 => by
                  have oS := hS.own
                  rw [← hTe] at oS
                  obtain ⟨g, rfl⟩ := own_addr oS hn0
                  have hlt := oS.lt g (by simp [Value.ownBlock])
                  exact ⟨g, rfl, hlt.2, fun j hj q hq => own_flat pk3 pk3_len oS hTe.symm j (by omega) q hq⟩⟩
                have hTM := hpl.out
                rw [← hTe] at hTM hpl2
                have HTM := hid hTM
                have HRn := hid hS.run
                have hBs := hS.bel
                have hTw := hT.below hBs hT.lt
                have HRs : Hid (∀ j, j < ln → rs (M + j) = some (X ls j)) := hσ.out.2
                clear hTM hpl hS hσ hq
                go_wp2_with fail
                rw [← hTe]
                clear hTe
                refine (remember_ok N (by omega) sa T sc ps rs σ wr hP (by omega) HRn.out hTw).mono ?_
                rintro e V ⟨oa, oc, R, rfl, hRl, hRv, oR, hBV⟩
                have hB2 := hBs.trans (hBV.mono hBs.size)
                have hBle := hBs.size
                have oR := ownsRow_mono oR hBle
                have HRl := hid hRl
                have HRv := hid hRv
                have hTb : T ≤ 3000 := hpl2
                clear hP hBs hBV hRl hRv hTw HRn hpl2 hBle
                have tT : ((T : Int) != (T : Int)) = false := by simp
                go_wp2_with fail
                clear tT
                go_loop [13] (fun v => ∃ q : Nat, v = .int .i64 (q : Int) ∧ q ≤ T) (fun v => T - (intOf v).toNat)
                case atStart => exact ⟨0, rfl, Nat.zero_le _⟩
                case round =>
                  obtain ⟨q, rfl, hq⟩ := hrel
                  by_cases hqT : q < T
                  · obtain ⟨g, hg⟩ := own_addr oR (by omega)
                    subst hg
                    have t4 : (q : Int) < (T : Int) := by omega
                    have d0 := own_flat po4 po4_len oR HRl.out q hqT 2 (by decide)
                    have d1 := own_flat po4 po4_len oR HRl.out q hqT 1 (by decide)
                    replace d0 : V.cell? ⟨g, q * 4 + 2, none⟩ = some (.int .i64 0) := d0
                    replace d1 : V.cell? ⟨g, q * 4 + 1, none⟩ = some (.slice none 0 0) := d1
                    go_wp2_with fail
                    go_round
                    case rel => exact ⟨q + 1, by go_num, by omega⟩
                    case measure => simp [intOf]; omega
                  · obtain rfl : T = q := by omega
                    have t4 : ¬ (T : Int) < (T : Int) := by omega
                    clear hqT
                    go_wp2_with fail
                    go_loopw [14] (fun v wr => ∃ q : Nat, v = .int .i64 (q : Int) ∧ q ≤ ln ∧ wr.ownsRow w0.heap.size 38 4 (.slice oa T oc) T (R.flatMap po4) ∧ Below w0.heap.size w0 wr) (fun v _ => ln - (intOf v).toNat)
                    case atStart => exact ⟨0, rfl, Nat.zero_le _, oR, hB2⟩
                    case round =>
                      clear oR hB2
                      obtain ⟨q, rfl, hq, oR, hB2⟩ := hrel
                      by_cases hql : q < ln
                      · have hqT : M + q < T := by have := HTM.out; omega
                        obtain ⟨g, hg⟩ := own_addr oR (by omega)
                        subst hg
                        have t5 : (q : Int) < (ln : Int) := by omega
                        have hv : R.getD (M + q) 0 = X ls q := HRv.out (M + q) hqT _ (HRs.out q hql)
                        have d0 := own_flat po4 po4_len oR HRl.out (M + q) hqT 0 (by decide)
                        have e9 : R[M + q]'(by rw [HRl.out]; exact hqT) = X ls q := by
                          rw [← hv, List.getD_eq_getElem?_getD, List.getElem?_eq_getElem (by rw [HRl.out]; exact hqT)]; rfl
                        rw [e9] at d0
                        replace d0 : wr.cell? ⟨g, (M + q) * 4, none⟩ = some (.int .i64 (X ls q : Nat)) := d0
                        obtain ⟨lb, lo, rfl, hlb, hlcell⟩ := hL.cellz q hql
                        have hlc := (hB2.cell (p := ⟨lb, lo + q, none⟩) hlb).trans hlcell
                        have hz := getD_i64 hls q
                        have hX : X ls q = pk (ls.getD q 0) 4294967296 := rfl
                        rw [hX] at d0
                        clear hv e9 hX hlcell
                        obtain ⟨Wd, hWd⟩ : ∃ Wd : World, Wd = { wr with drawn := wr.drawn + 1 } := ⟨_, rfl⟩
                        have eW : wr.drew = Wd := hWd.symm
                        have oRd := oR.drew
                        have hBd := hB2.drew
                        replace d0 : wr.drew.cell? ⟨g, (M + q) * 4, none⟩ = _ := d0
                        replace hlc : wr.drew.cell? ⟨lb, lo + q, none⟩ = _ := hlc
                        rw [eW] at d0 hlc oRd hBd
                        generalize ls.getD q 0 = z at *
                        clear oR hB2 eW
                        have u1 : (T : Int) - (ln : Int) = (M : Int) := by have := HTM.out; omega
                        have u2 : IntKind.i64.wrap ((T : Int) - (ln : Int)) = (M : Int) := by rw [u1]; exact IntWalk.i64_in _ (by omega)
                        have u3 : IntKind.i64.wrap ((M : Int) + (q : Int)) = (M : Int) + (q : Int) := IntWalk.i64_in _ (by omega)
                        have u4 : (0 : Int) ≤ (M : Int) + (q : Int) := by omega
                        have u5 : (M : Int) + (q : Int) < (T : Int) := by omega
                        have u6 : ((M : Int) + (q : Int)).toNat = M + q := by omega
                        have HU := hid u1
                        clear u1
                        go_wp2_with fail
                        refine wp_region_still_lit (by kernel_rfl) (by kernel_rfl) ?_
                        rw [← hWd]
                        clear hWd
                        repeat still_step
                        still_call (pick_st z 4294967296 Wd hz.1 hz.2 (by decide) (by decide))
                        repeat still_step
                        refine wpStill_nil ?_
                        go_wp2_with fail
                        go_roundw
                        case rel => exact ⟨q + 1, by go_num, by omega, oRd, hBd⟩
                        case measure => simp [intOf]; omega
                      · have t5 : ¬ (q : Int) < (ln : Int) := by omega
                        go_wp2_with fail
                        go_ret
                        exact ⟨rfl, hB2⟩
end Go.Proofs.YtgacnbildligjaaDoor
