/- Through: the walk. -/
import Derived.Test.YtiejjjbnhkdfeaaAt
import Derived.Test.YtiejjjbnhkdfeaaThrough
import Derived.Test.YtiejjjbnhkdfeaaOver
import Derived.Test.YtiejjjbnhkdfeaaMarks
namespace Go.Proofs.Ytiejjjbnhkdfeaa
set_option linter.unusedVariables false
open Go.RowKit Go.Shelf
attribute [local go_sem] Oper.semAt_some

/-- which bytes have been seen -/
def seenL (S : List Nat) : List Value := (List.range 256).map fun v => Value.bool (decide (v ∈ S))
theorem seenL_len (S : List Nat) : (seenL S).length = 256 := by simp [seenL]
theorem seenL_get (S : List Nat) (x : Nat) (h : x < 256) : (seenL S)[x]? = some (.bool (decide (x ∈ S))) := by simp [seenL, h]
theorem seenL_set (S : List Nat) (x : Nat) (h : x < 256) : (seenL S).set x (.bool true) = seenL (S ++ [x]) := by
  apply List.ext_getElem?
  intro i
  rw [List.getElem?_set]
  by_cases hi : i < 256
  · rw [seenL_get _ _ hi]
    by_cases hx : x = i
    · subst hx; rw [if_pos rfl, if_pos (by rw [seenL_len]; exact h), seenL_get _ _ h]; simp
    · have : ¬ i = x := fun e => hx e.symm
      rw [if_neg hx, seenL_get _ _ hi]
      simp [this]
  · rw [List.getElem?_eq_none (by rw [seenL_len]; omega)]
    rw [if_neg (by omega), List.getElem?_eq_none (by rw [seenL_len]; omega)]

def seenA : Array Value := Array.replicate 256 (.bool false)
theorem seenA_list : seenA.toList = seenL [] := by simp [seenA, seenL, List.map_const']
theorem info48 : (Try.prog.info? 48).map (fun i => (i.zero, i.size, i.bytes)) = some (some (.agg seenA), 256, 256) := by kernel_rfl
theorem zero48 (u : World) : Sem.run Try.prog (zeroValue 48) u = .ok (.agg seenA) u := by
  obtain ⟨i, h1, h2, _, _⟩ := info_parts info48
  simp [zeroValue, typeInfo, h1, h2]

theorem rows_apart {w : World} {b b' e e' s s' n n' : Nat} {v v' : Value} {xs xs' : List Value} (h : w.ownsRow b e s v n xs) (h' : w.ownsRow b' e' s' v' n' xs') (he : e ≠ e') : v.ownBlock = none ∨ v.ownBlock ≠ v'.ownBlock := by
  rcases h.2 with ⟨rfl, _⟩ | ⟨g, cap, cur, rfl, _, hg, _⟩
  · exact .inl rfl
  · rcases h'.2 with ⟨rfl, _⟩ | ⟨g', cap', cur', rfl, _, hg', _⟩
    · exact .inr (by simp [Value.ownBlock])
    · refine .inr ?_
      simp only [Value.ownBlock, ne_eq, Option.some.injEq]
      rintro rfl
      rw [hg] at hg'
      cases hg'
      exact he rfl
theorem own_lt {w : World} {b e s g n c n' : Nat} {xs : List Value} (h : w.ownsRow b e s (.slice (some ⟨g, 0, none⟩) n c) n' xs) : g < w.heap.size := by
  rcases h.2 with ⟨h, _⟩ | ⟨g', cap, cur, hv, _, hg, _⟩
  · cases h
  · cases hv; exact (Array.getElem?_eq_some_iff.1 hg).1
theorem nextP_eq {A : List Nat} {k : Nat} (h : A.length = k + 1) (x : Nat) : addTo (addTo (List.replicate (k + 1 + 1) 0) A ((x : Int).toNat) (Int.toNat 0) (k + 1)) A (Int.toNat 1) (Int.toNat 1) (k + 1) = nextP A x := by
  unfold nextP; rw [h]; rfl

theorem run_mk' (m : Nat) (hm : m ≤ 140737488355328) (u : World) (z : Int) (hz : z = (m : Int)) : (Instr.makeSlice 42 (.int .i64 z) (.int .i64 z)).run Try.prog u =
    .ok (.slice (some ⟨u.heap.size, 0, none⟩) m m) (u.alloc (.cells (madeCells #[.int .u8 0] m) 5)) := by
  subst hz; exact run_mk m hm u

theorem ownsRow_cells {w w' : World} {base e size : Nat} {v : Value} {n : Nat} {xs : List Value} (h : w.ownsRow base e size v n xs) (hk : ∀ (g : Nat) (o : Obj), w.heap[g]? = some o → o.isCells = true → w'.heap[g]? = some o) : w'.ownsRow base e size v n xs := by
  refine ⟨h.1, ?_⟩
  rcases h.2 with hn | ⟨g, cap, cur, rfl, hB, hgg, rest⟩
  · exact .inl hn
  · exact .inr ⟨g, cap, cur, rfl, hB, hk g _ hgg rfl, rest⟩

/-- what lies in 'one' behind the rounds so far -/
def oneL (x k : Nat) (l : List (Nat × Nat)) : List Nat := (l.foldl (fun (s : Nat × List Nat) p => (Gf.mul s.1 x ^^^ p.2, s.2.set p.1 (Gf.mul s.1 x ^^^ p.2))) (0, List.replicate k 0)).2
theorem oneL_fst (x k : Nat) (l : List (Nat × Nat)) : (l.foldl (fun (s : Nat × List Nat) p => (Gf.mul s.1 x ^^^ p.2, s.2.set p.1 (Gf.mul s.1 x ^^^ p.2))) (0, List.replicate k 0)).1 = hor x l := by
  unfold hor
  suffices key : ∀ (l : List (Nat × Nat)) (v : Nat) (L : List Nat), (l.foldl (fun (s : Nat × List Nat) p => (Gf.mul s.1 x ^^^ p.2, s.2.set p.1 (Gf.mul s.1 x ^^^ p.2))) (v, L)).1 = l.foldl (fun v p => Gf.mul v x ^^^ p.2) v from key l 0 _
  intro l
  induction l with
  | nil => intro v L; rfl
  | cons p l ih => intro v L; exact ih _ _
theorem oneL_snoc (x k : Nat) (l : List (Nat × Nat)) (p : Nat × Nat) : oneL x k (l ++ [p]) = (oneL x k l).set p.1 (hor x (l ++ [p])) := by
  unfold oneL
  rw [List.foldl_append, ← oneL_fst x k (l ++ [p]), List.foldl_append]
  rfl
theorem oneL_len (x k : Nat) (l : List (Nat × Nat)) : (oneL x k l).length = k := by
  suffices key : ∀ (l : List (Nat × Nat)) (v : Nat) (L : List Nat), (l.foldl (fun (s : Nat × List Nat) p => (Gf.mul s.1 x ^^^ p.2, s.2.set p.1 (Gf.mul s.1 x ^^^ p.2))) (v, L)).2.length = L.length from (key l 0 _).trans List.length_replicate
  intro l
  induction l with
  | nil => intro v L; rfl
  | cons p l ih => intro v L; exact (ih _ _).trans (by simp)
theorem oneL_nth {A : List Nat} {k x : Nat} (hA : A.length = k + 1) (hx : x < 256) : ∀ m, m ≤ k → ∀ j, j < k → nth (oneL x k (backL (A.drop 1) k m)) j = if k - m ≤ j then ev (A.drop (j + 1)) x else 0
  | 0, _, j, hj => by rw [if_neg (by omega)]; exact nth_replicate _ _
  | m + 1, hm, j, hj => by
    have hd : (A.drop 1).length = k := by simp [hA]
    rw [backL_succ, oneL_snoc, nth_set _ _ _ _ (by rw [oneL_len]; dsimp only; omega), ← backL_succ]
    have hh := hor_back (A.drop 1) x hx (m + 1) (by omega)
    rw [hd, List.drop_drop] at hh
    dsimp only
    by_cases he : j = k - 1 - m
    · rw [if_pos he, if_pos (by omega), hh]
      congr 2
      omega
    · rw [if_neg he, oneL_nth hA hx m (by omega) j hj]
      by_cases h1 : k - m ≤ j
      · rw [if_pos h1, if_pos (by omega)]
      · rw [if_neg h1, if_neg (by omega)]
theorem oneL_all {A : List Nat} {k x : Nat} (hA : A.length = k + 1) (hx : x < 256) : oneL x k (backL (A.drop 1) k k) = oneP A x k := by
  apply ext_nth
  · rw [oneL_len]; unfold oneP; rw [List.length_take, syn_len, hA]; omega
  · intro j hj
    rw [oneL_len] at hj
    rw [oneL_nth hA hx k (Nat.le_refl _) j hj, if_pos (by omega)]
    unfold oneP
    rw [nth_take, if_pos hj, syn_nth]

set_option maxRecDepth 100000 in
set_option maxHeartbeats 4000000 in
theorem through_ok (xa ya : Option Addr) (n xc yc : Nat) (xs ys : List Nat) (hxb : AllB xs) (hyb : AllB ys) (hn : n ≤ 60) (hnd : xs.Nodup) (w : World) (hX : Rd w xa n xc (vb xs)) (hY : Rd w ya n yc (vb ys)) :
    Calls Try.prog 15 #[.slice xa n xc, .slice ya n yc] w fun e W' => (∃ ao cap S, e = .returned (.tuple #[.slice ao (trim S).length cap, .int .i64 0]) ∧ Upto S xs ys xs.length ∧ W'.ownsRow w.heap.size 5 1 (.slice ao (trim S).length cap) (trim S).length (vb (trim S))) ∧ Below w.heap.size w W' := by
  have hxl : xs.length = n := by have := hX.len; rwa [vb_len] at this
  have hyl : ys.length = n := by have := hY.len; rwa [vb_len] at this
  refine (callsIn_wide (n := 8)).1 ?_
  have hro : Fence.wide.round = none := rfl
  have h1 : 1 ≤ 8 := by decide
  refine callsIn_of_wp_marks Try.func15 rfl trivial ?_ hro
  simp only [Try.ntmps15, List.size_toArray, List.length_cons, List.length_nil, Nat.reduceAdd, Nat.reduceSub, Array.replicate_succ, Array.replicate_zero, List.push_toArray, List.append_toArray, List.nil_append, List.cons_append]
  refine wpIn_wide.2 ?_
  have z48 := zero48
  go_wp2_with fail
  have zs : seenA.size = 256 := by simp [seenA]
  have os := World.ownsRow_lit (base := w.heap.size) (e := 48) (size := 1) w seenA 256 (Nat.le_refl _) (by unfold maxLen; omega) (by rw [zs])
  rw [seenA_list] at os
  have bs := below_alloc w (.cells seenA 48)
  have oa := World.ownsRow_lit (base := w.heap.size) (e := 5) (size := 1) (w.alloc (.cells seenA 48)) #[.int .u8 1] 1 (by simp) (by unfold maxLen; omega) rfl
  have ba := below_alloc (w.alloc (.cells seenA 48)) (.cells #[.int .u8 1] 5)
  have os := ownsRow_below os ba
  have hB := bs.trans (ba.mono bs.size)
  simp only [World.size_alloc] at oa
  clear bs ba z48
  generalize (w.alloc (Obj.cells seenA 48)).alloc (Obj.cells #[Value.int IntKind.u8 1] 5) = W0 at *
  go_loopw [7, 33] (fun al i wr => ∃ (k g c : Nat) (A : List Nat), i = .int .i64 k ∧ k ≤ n ∧ al = .slice (some ⟨g, 0, none⟩) (k + 1) c ∧ wr.ownsRow w.heap.size 5 1 (.slice (some ⟨g, 0, none⟩) (k + 1) c) (k + 1) (vb A) ∧ AllN A (xs.take k) ∧ wr.ownsRow w.heap.size 48 1 (.slice (some ⟨w.heap.size, 0, none⟩) 256 256) 256 (seenL (xs.take k)) ∧ Below w.heap.size w wr) (fun _ i _ => n - (intOf i).toNat)
  case atStart => exact ⟨0, w.heap.size + 1, 1, [1], rfl, Nat.zero_le _, rfl, oa, alln_start, os, hB⟩
  case round =>
    clear oa os hB
    obtain ⟨k, g, c, A, rfl, hk, rfl, oA, hA, oS, hB⟩ := hrel
    by_cases hlt : k < n
    · have t1 : (k : Int) < (n : Int) := by omega
      obtain ⟨xb, xo, rfl, hxlt, hxc⟩ := (hX.below hB).cell k hlt
      have hx := nth_lt hxb k
      have hnew : nth xs k ∉ xs.take k := by
        intro hm
        obtain ⟨j, hj, he⟩ := List.getElem_of_mem hm
        have hj' : j < k := by simp at hj; omega
        have e2 : nth xs j = nth xs k := by rw [nth_get (by omega), ← he]; simp
        have := nth_inj hnd (by omega) (by omega) e2
        omega
      have hsc : wr.cell? ⟨w.heap.size, nth xs k, none⟩ = some (.bool false) := by
        rw [oS.cellAt (nth xs k) (by omega), seenL_get _ _ hx]; simp [hnew]
      have hsf : wr.frozen? ⟨w.heap.size, nth xs k, none⟩ = false := oS.frozenAt _
      have htk : xs.take (k + 1) = xs.take k ++ [nth xs k] := by
        rw [List.take_add_one, nth_get (by omega)]; simp [show k < xs.length by omega]
      have hA2 := alln_step hA (hxb.take k) hx
      rw [← htk] at hA2
      have hss := seenL_set (xs.take k) (nth xs k) hx
      rw [← htk] at hss
      have H1 := hid hA2
      have H2 := hid hss
      have H3 := hid hA
      clear hnew htk hA2 hss hA
      generalize hxx : nth xs k = x at *
      clear hxx
      obtain ⟨oS1, g1⟩ := oS.stored x (.bool true)
      rw [H2.out] at oS1
      have oA1 := oA.kept g1 (rows_apart oA oS (by decide))
      have B1 := hB.grown g1 hB.size (fun k e => by cases e; exact Nat.le_refl _)
      obtain ⟨W1, hW1⟩ : ∃ W1, W1 = wr.setCell ⟨w.heap.size, x, none⟩ (.bool true) := ⟨_, rfl⟩
      rw [← hW1] at oS1 oA1 B1
      have hW1' := hW1.symm
      clear hW1 g1 oS oA hB H2
      have km := fun u => run_mk' (k + 1 + 1) (by omega) u ((k : Int) + 1 + 1) (by omega)
      have oN := made_own (k + 1 + 1) (by omega) W1
      have bN := below_alloc W1 (.cells (madeCells #[.int .u8 0] (k + 1 + 1)) 5)
      have hAl := (Rd.ofOwn oA1).below bN
      have hgl : g < W1.heap.size := (Rd.ofOwn oA1).block_lt (by omega) rfl
      have hAlen : A.length = k + 1 := by have := H3.out.len; simp [hxl] at this; omega
      have hAlen := hid hAlen
      have hAb := H3.out.all
      go_wp2_with fail
      clear hW1' km hsc hsf hxc
      refine (add_any W1.heap.size W1.heap.size (k + 1 + 1) (k + 1 + 1) (List.replicate (k + 1 + 1) 0) A (some ⟨g, 0, none⟩) (k + 1) c _ _ _ oN (AllB.replicate _) hAl hAb (fun b off _ h => by cases h; omega) (by omega) (by omega) (by omega) (by omega) (by omega)).mono ?_
      rintro e w1 ⟨rfl, o1, gg1⟩
      go_wp2_with fail
      refine (add_any W1.heap.size W1.heap.size (k + 1 + 1) (k + 1 + 1) _ A (some ⟨g, 0, none⟩) (k + 1) c _ _ _ o1 (addTo_all (AllB.replicate _) (by omega) _) (hAl.grown gg1 (fun b off _ h e => by cases h; cases e; omega)) hAb (fun b off _ h => by cases h; omega) (by omega) (by omega) (by omega) (by omega) (by omega)).mono ?_
      rintro e w2 ⟨rfl, o2, gg2⟩
      rw [nextP_eq hAlen.out] at o2
      go_wp2_with fail
      go_roundw
      case rel =>
        have hle : w.heap.size ≤ W1.heap.size := B1.size
        have hBlt : w.heap.size < W1.heap.size := own_lt oS1
        have oS2 := ((ownsRow_below oS1 bN).kept gg1 (.inr (by simp [Value.ownBlock]; omega))).kept gg2 (.inr (by simp [Value.ownBlock]; omega))
        exact ⟨k + 1, W1.heap.size, k + 1 + 1, nextP A x, by simp, by omega, rfl, ownsRow_mono o2 hle, H1.out, oS2, ((B1.trans (bN.mono hle)).grown gg1 (by simp; omega) (fun k e => by cases e; exact hle)).grown gg2 (by have := gg1.size; simp at this; omega) (fun k e => by cases e; exact hle)⟩
      case measure => simp [intOf]; omega
    · obtain rfl : k = n := by omega
      rw [List.take_of_length_le (by omega)] at hA
      have hA := hid hA
      have km := fun u => run_mk' k (by omega) u (k : Int) rfl
      have oN := made_own k (by omega) wr
      have bN := below_alloc wr (.cells (madeCells #[.int .u8 0] k) 5)
      have oA1 := ownsRow_below oA bN
      have B1 := hB.trans (bN.mono hB.size)
      go_wp2_with fail
      have hgne : wr.heap.size ≠ g := by have := own_lt oA; omega
      have hgs : w.heap.size ≤ wr.heap.size := hB.size
      have oS0 := oN
      clear oA oS hB bN km
      have oN := ownsRow_mono oN hgs
      have hU := hid (upto_start xs ys hxb)
      rw [show List.replicate k 0 = List.replicate xs.length 0 by rw [hxl]] at oN
      generalize wr.alloc (Obj.cells (madeCells #[Value.int IntKind.u8 0] k) 5) = W2 at *
      generalize wr.heap.size = gs at *
      refine wp_loop (fun a W => ∃ (i : Nat) (S : List Nat) (ds : List Deferred) (y12 y13 y14 y15 y16 y17 y18 y19 y61 y62 y63 y64 y65 y66 y67 y68 y69 y70 y71 y72 y73 y74 y75 y76 y77 y78 y79 y80 y81 y82 y83 y84 y85 y86 y87 y88 y89 y90 y91 y92 y93 y94 y95 y96 y97 : Value), a = ⟨#[.slice xa k xc, .slice ya k yc, undef, undef, u4, u5, .pointer (some ⟨w.heap.size, 0, none⟩), .slice (some ⟨g, 0, none⟩) (k + 1) c, undef, u9, u10, .slice (some ⟨gs, 0, none⟩) k k, y12, y13, y14, y15, y16, y17, y18, y19, .slice xa k xc, .int .i64 k, .slice ya k yc, .int .i64 k, .bool false, .bool false, .slice xa k xc, .int .i64 k, .bool (decide (255 < (k : Int))), .bool (decide (255 < (k : Int))), .slice (some ⟨w.heap.size + 1, 0, none⟩) 1 1, .slice xa k xc, .int .i64 k, .int .i64 k, .bool false, u35, u36, u37, u38, u39, u40, u41, u42, u43, u44, u45, u46, u47, u48, u49, u50, u51, u52, u53, u54, .slice xa k xc, .int .i64 k, .slice (some ⟨gs, 0, none⟩) k k, .slice xa k xc, .int .i64 k, .int .i64 (i : Int), y61, y62, y63, y64, y65, y66, y67, y68, y69, y70, y71, y72, y73, y74, y75, y76, y77, y78, y79, y80, y81, y82, y83, y84, y85, y86, y87, y88, y89, y90, y91, y92, y93, y94, y95, y96, y97, undef, undef], ds⟩ ∧ i ≤ k ∧ Hid (Upto S xs ys i) ∧ W.ownsRow w.heap.size 5 1 (.slice (some ⟨gs, 0, none⟩) k k) k (vb S) ∧ W.ownsRow w.heap.size 5 1 (.slice (some ⟨g, 0, none⟩) (k + 1) c) (k + 1) (vb A) ∧ Below w.heap.size w W ∧ Marks w.heap.size ds W) (fun a _ => k - (intOf (a.tmps.getD 60 undef)).toNat) ?_ ?_
      · exact ⟨0, List.replicate xs.length 0, [], _, _, _, _, _, _, _, _, _, _, _, _, _, _, _, _, _, _, _, _, _, _, _, _, _, _, _, _, _, _, _, _, _, _, _, _, _, _, _, _, _, _, _, _, _, rfl, Nat.zero_le _, hU, oN, oA1, B1, trivial⟩
      · clear oN oA1 B1 hU oS0
        rintro a W ⟨i, S, ds, y12, y13, y14, y15, y16, y17, y18, y19, y61, y62, y63, y64, y65, y66, y67, y68, y69, y70, y71, y72, y73, y74, y75, y76, y77, y78, y79, y80, y81, y82, y83, y84, y85, y86, y87, y88, y89, y90, y91, y92, y93, y94, y95, y96, y97, rfl, hi, hU, oN, oA, hB, hM⟩
        by_cases hlt : i < k
        · have t1 : (i : Int) < (k : Int) := by omega
          obtain ⟨xb, xo, rfl, hxlt, hxc⟩ := (hX.below hB).cell i (by omega)
          have hx := nth_lt hxb i
          have hxm : nth xs i ∈ xs := nth_mem (by omega)
          have hself := hid (one_self hA.out hxb hnd hxm)
          have hstep := hid (upto_step hU.out hA.out hxb hyb hnd (by omega : i < xs.length))
          rw [hxl] at hstep hself
          have hSb := hU.out.all
          have hyi := nth_lt hyb i
          obtain ⟨yb, yo, rfl, hylt, hyc⟩ := (hY.below hB).cell i (by omega)
          have km := fun u => run_mk' k (by omega) u (k : Int) rfl
          have hcc : k + 1 ≤ c := by obtain ⟨_, _, hv, h1, _⟩ := own_form oA; cases hv; exact h1
          have hcc1 : ¬ (c = 1) := by omega
          generalize hxx : nth xs i = x at *
          generalize hyy : nth ys i = yv at *
          clear hxx hyy hU hxm
          go_wp2_with fail
          refine ((callsIn_wide (n := 8)).1 (backward20 Fence.wide 8 trivial rfl _ _ _ _)).mono ?_
          rintro e w' ⟨rfl, rfl⟩
          go_wp2_with fail
          have bX := Boxed.new W 5 (.int .u8 (x : Int))
          obtain ⟨H, hH⟩ : ∃ H, H = W.heap.size := ⟨_, rfl⟩
          have oL := made_own k (by omega) (W.alloc (.cells #[.int .u8 (x : Int)] 5))
          have bO := Boxed.new ((W.alloc (.cells #[.int .u8 (x : Int)] 5)).alloc (.cells (madeCells #[.int .u8 0] k) 5)) 42 (.slice (some ⟨W.heap.size + 1, 0, none⟩) k k)
          have bC := Boxed.new (((W.alloc (.cells #[.int .u8 (x : Int)] 5)).alloc (.cells (madeCells #[.int .u8 0] k) 5)).alloc (.cells #[.slice (some ⟨W.heap.size + 1, 0, none⟩) k k] 42)) 5 (.int .u8 0)
          have bN := Boxed.new ((((W.alloc (.cells #[.int .u8 (x : Int)] 5)).alloc (.cells (madeCells #[.int .u8 0] k) 5)).alloc (.cells #[.slice (some ⟨W.heap.size + 1, 0, none⟩) k k] 42)).alloc (.cells #[.int .u8 0] 5)) 42 (.slice (some ⟨g, 1, none⟩) k (c - 1))
          simp only [World.size_alloc] at oL bO bC bN
          have bX := (((bX.alloc (.cells (madeCells #[.int .u8 0] k) 5)).alloc (.cells #[.slice (some ⟨W.heap.size + 1, 0, none⟩) k k] 42)).alloc (.cells #[.int .u8 0] 5)).alloc (.cells #[.slice (some ⟨g, 1, none⟩) k (c - 1)] 42)
          have bO := (bO.alloc (.cells #[.int .u8 0] 5)).alloc (.cells #[.slice (some ⟨g, 1, none⟩) k (c - 1)] 42)
          have bC := bC.alloc (.cells #[.slice (some ⟨g, 1, none⟩) k (c - 1)] 42)
          have oL := ownsRow_below (ownsRow_below (ownsRow_below oL (below_alloc _ (.cells #[.slice (some ⟨W.heap.size + 1, 0, none⟩) k k] 42))) (below_alloc _ (.cells #[.int .u8 0] 5))) (below_alloc _ (.cells #[.slice (some ⟨g, 1, none⟩) k (c - 1)] 42))
          have bV : Below W.heap.size W (((((W.alloc (.cells #[.int .u8 (x : Int)] 5)).alloc (.cells (madeCells #[.int .u8 0] k) 5)).alloc (.cells #[.slice (some ⟨W.heap.size + 1, 0, none⟩) k k] 42)).alloc (.cells #[.int .u8 0] 5)).alloc (.cells #[.slice (some ⟨g, 1, none⟩) k (c - 1)] 42)) :=
            (((((Below.refl _ W).alloc (Nat.le_refl _) _).alloc (by simp) _).alloc (by simp; omega) _).alloc (by simp; omega) _).alloc (by simp; omega) _
          have hsz : (((((W.alloc (.cells #[.int .u8 (x : Int)] 5)).alloc (.cells (madeCells #[.int .u8 0] k) 5)).alloc (.cells #[.slice (some ⟨W.heap.size + 1, 0, none⟩) k k] 42)).alloc (.cells #[.int .u8 0] 5)).alloc (.cells #[.slice (some ⟨g, 1, none⟩) k (c - 1)] 42)).heap.size = W.heap.size + 5 := by simp
          generalize ((((W.alloc (.cells #[.int .u8 (x : Int)] 5)).alloc (.cells (madeCells #[.int .u8 0] k) 5)).alloc (.cells #[.slice (some ⟨W.heap.size + 1, 0, none⟩) k k] 42)).alloc (.cells #[.int .u8 0] 5)).alloc (.cells #[.slice (some ⟨g, 1, none⟩) k (c - 1)] 42) = V at *
          rw [← hH] at bX bO bC bN oL bV hsz ⊢
          have hH' := hid hH
          clear hH
          have hAl : A.length = k + 1 := by have := hA.out.len; omega
          have hAb := hA.out.all
          have oAV := ownsRow_below oA (hH'.out ▸ bV)
          have hRA : Rd V (some ⟨g, 1, none⟩) k (c - 1) (vb (A.drop 1)) := by
            have h0 := Rd.ofOwn oAV
            have hm := h0.max
            refine ⟨by rw [vb_len, List.length_drop]; omega, by omega, by omega, (fun h => by cases h), fun _ => ⟨g, 1, rfl, own_lt oAV, fun j hj => ?_⟩⟩
            obtain ⟨b', o', hb', _, hcell⟩ := h0.cell (1 + j) (by omega)
            cases hb'
            rw [Nat.zero_add] at hcell
            rw [hcell, vb_get _ _ (by rw [List.length_drop]; omega), nth_drop]
          have hgH : g < H := by rw [hH'.out]; exact own_lt oA
          have hdb : AllB (A.drop 1) := hAb.drop 1
          have hHle : H ≤ W.heap.size := by rw [hH'.out]; exact Nat.le_refl _
          have hHge : W.heap.size ≤ H := by rw [hH'.out]; exact Nat.le_refl _
          have hx8 := hx
          refine (wpIn_wide (n := 8)).1 ?_
          refine wpIn_rangeFunc_ownG hro h1 (gf := 23) (lb := #[.pointer (some ⟨H + 1 + 1 + 1 + 1, 0, none⟩)]) rfl trivial (enters_of Try.func23 (by kernel_rfl) rfl)
            (stops23 Fence.wide (8 - 1) trivial hro (by omega) (H + 1 + 1 + 1 + 1) H (some ⟨g, 1, none⟩) k (c - 1) (A.drop 1) hdb (by omega) V (by omega) (by omega) bN.cell hRA (fun _ b off h => by cases h; exact hgH)) (fun h k => h.trans k) (kb_b (by omega) (by omega)) (Below.refl _ _) (fun _ => rfl)
            (fun (pre : List (Ib k)) W' => ((W'.cell? ⟨H + 1 + 1 + 1, 0, none⟩ = some (.int .u8 (hor x (pre.map (·.1)) : Nat)) ∧ W'.frozen? ⟨H + 1 + 1 + 1, 0, none⟩ = false) ∧ W'.cell? ⟨H, 0, none⟩ = some (.int .u8 (x : Int))) ∧ (∃ v, Boxed W' (H + 1 + 1) 42 v ∧ W'.ownsRow H 5 1 v k (vb (oneL x k (pre.map (·.1)))) ∧ v = .slice (some ⟨H + 1, 0, none⟩) k k) ∧ Below H W W')
            (fun _ _ _ => False)
            (OwnFrom.and (Own.from (fun s A B row hs hg hr => ⟨⟨cell_kept hs.1.1 hg hr, (frozen_kept hs.1.1 hg hr).trans hs.1.2⟩, cell_kept hs.2 hg hr⟩) _) (OwnFrom.and (Own.from (holdsRow_own H (H + 1 + 1) 42 5 1 (fun _ => k) (fun (pre : List (Ib k)) => vb (oneL x k (pre.map (·.1)))) (fun _ v => v = .slice (some ⟨H + 1, 0, none⟩) k k)) _) (ownFrom_below (by omega) (by omega))))
            (fun _ _ _ _ _ hs _ _ => hs)
            ⟨⟨⟨bC.cell, bC.frozen⟩, bX.cell⟩, ⟨_, bO, ownsRow_mono oL (by omega), rfl⟩, bV⟩
            (fun p => { tmps := #[.slice (some ⟨xb, xo, none⟩) k xc, .slice (some ⟨yb, yo, none⟩) k yc, undef, undef, u4, u5, .pointer (some ⟨w.heap.size, 0, none⟩), .slice (some ⟨g, 0, none⟩) (k + 1) c, undef, u9, u10, .slice (some ⟨gs, 0, none⟩) k k, .int .i64 (i : Int), .pointer (some ⟨H, 0, none⟩), .pointer (some ⟨H + 1 + 1, 0, none⟩), .pointer (some ⟨H + 1 + 1 + 1, 0, none⟩), .int .i64 (p.1.1 : Int), .int .u8 (p.1.2 : Int), y18, y19, .slice (some ⟨xb, xo, none⟩) k xc, .int .i64 (k : Int), .slice (some ⟨yb, yo, none⟩) k yc, .int .i64 (k : Int), .bool false, .bool false, .slice (some ⟨xb, xo, none⟩) k xc, .int .i64 (k : Int), .bool (decide (255 < (k : Int))), .bool (decide (255 < (k : Int))), .slice (some ⟨w.heap.size + 1, 0, none⟩) 1 1, .slice (some ⟨xb, xo, none⟩) k xc, .int .i64 (k : Int), .int .i64 (k : Int), .bool false, u35, u36, u37, u38, u39, u40, u41, u42, u43, u44, u45, u46, u47, u48, u49, u50, u51, u52, u53, u54, .slice (some ⟨xb, xo, none⟩) k xc, .int .i64 (k : Int), .slice (some ⟨gs, 0, none⟩) k k, .slice (some ⟨xb, xo, none⟩) k xc, .int .i64 (k : Int), .int .i64 (i : Int), .bool true, .int .i64 (i : Int), .pointer (some ⟨xb, xo + i, none⟩), .int .u8 (x : Int), .slice (some ⟨xb, xo, none⟩) k xc, .int .i64 (k : Int), .slice (some ⟨H + 1, 0, none⟩) k k, .slice (some ⟨g, 0, none⟩) (k + 1) c, .slice (some ⟨g, 1, none⟩) k (c - 1), .func (.func 23) #[] #[.pointer (some ⟨H + 1 + 1 + 1 + 1, 0, none⟩)], .int .i64 (p.1.1 : Int), .int .u8 (p.1.2 : Int), y73, y74, y75, y76, y77, y78, y79, y80, y81, y82, y83, y84, y85, y86, y87, y88, y89, y90, y91, y92, y93, y94, y95, y96, y97, undef, undef], defers := [] }) ?assign ?body ?done ?stop
          case assign =>
            intro l p W K hK
            dsimp only [encIb]
            gi_wp2
            exact hK
          case body =>
            rintro l pre p W' ⟨⟨⟨hc, hf⟩, hx'⟩, ⟨v, hbo, hro', rfl⟩, hB'⟩ _
            have hp := p.2.2
            have hpk := p.2.1
            have hh : hor x (pre.map (·.1)) < 256 := hor_lt x _ (fun q hq => by
              obtain ⟨y, _, rfl⟩ := List.mem_map.1 hq
              exact y.2.2)
            have e1 := u8_xor_nat p.1.2 (Gf.mul (hor x (pre.map (·.1))) x) hp (Gf.mul_lt _ _ hh)
            have e2 := hor_snoc x (pre.map (·.1)) p.1
            have e3 := oneL_snoc x k (pre.map (·.1)) p.1
            rw [Nat.xor_comm, ← e2, show pre.map (·.1) ++ [p.1] = (pre ++ [p]).map (·.1) by simp] at e1
            rw [show pre.map (·.1) ++ [p.1] = (pre ++ [p]).map (·.1) by simp] at e3
            clear e2
            have hw := mul_st (hor x (pre.map (·.1))) x W' hh hx8
            generalize hor x (pre.map (·.1)) = h at *
            generalize hh' : hor x ((pre ++ [p]).map (·.1)) = h' at *
            have hh' := hid hh'
            have e3 := hid e3
            generalize Gf.mul h x = m at *
            gi_wp2_with fail
            refine ⟨trivial, ?_⟩
            refine (CallsIn.inRound l (callsIn_wide.2 hw)).mono ?_
            rintro e w' ⟨rfl, rfl⟩
            obtain ⟨W1, hW1⟩ : ∃ W1, W1 = w'.setCell ⟨H + 1 + 1 + 1, 0, none⟩ (.int .u8 (h' : Int)) := ⟨_, rfl⟩
            have gr1 : w'.grownBy W1 (some (H + 1 + 1 + 1)) := by rw [hW1]; exact grownBy_setCell' w' (H + 1 + 1 + 1) _
            have c1 : W1.cell? ⟨H + 1 + 1 + 1, 0, none⟩ = some (.int .u8 (h' : Int)) := by rw [hW1]; exact World.cell?_setCell_same' _ _ _ (by rw [hc]; rfl)
            have f1 : W1.frozen? ⟨H + 1 + 1 + 1, 0, none⟩ = false := by rw [hW1, World.frozen?_setCell]; exact hf
            have x1 : W1.cell? ⟨H, 0, none⟩ = some (.int .u8 (x : Int)) := by rw [hW1]; exact (World.cell?_setCell_other _ _ _ _ (by simp)).trans hx'
            have b1 := hbo.kept gr1 (by simp)
            have o1 := hro'.kept gr1 (.inr (by simp [Value.ownBlock]))
            have bc1 := b1.cell
            have ol : (oneL x k (pre.map (·.1))).length = k := oneL_len _ _ _
            have oc1 : W1.cell? ⟨H + 1, p.1.1, none⟩ = some (.int .u8 (nth (oneL x k (pre.map (·.1))) p.1.1 : Nat)) := by rw [o1.cellAt _ (by omega), vb_get _ _ (by omega)]
            have of1 := o1.frozenAt p.1.1
            have kb1 : Below H w' W1 ∧ KeepsOthers w' W1 ∧ Kb H (H + 1 + 1 + 1 + 1) w' W1 := by
              rw [hW1]
              exact ⟨(Below.refl _ _).setCell (p := ⟨H + 1 + 1 + 1, 0, none⟩) (by simp; omega) _, KeepsOthers.setCell _ _ _, (Below.refl _ _).setCell (p := ⟨H + 1 + 1 + 1, 0, none⟩) (by simp; omega) _, fun v hv => (World.cell?_setCell_other _ _ _ _ (by simp)).trans hv⟩
            have hW1' := hW1.symm
            clear hW1
            gi_wp2_with fail
            obtain ⟨o2, g2⟩ := o1.stored p.1.1 (.int .u8 (h' : Int))
            rw [vb_set, ← e3.out] at o2
            refine ⟨(kb1.2.1.trans (KeepsOthers.setCell _ _ _)).from _, kb1.2.2.trans ⟨(Below.refl _ _).setCell (p := ⟨H + 1, p.1.1, none⟩) (by simp) _, fun v hv => (World.cell?_setCell_other _ _ _ _ (by simp)).trans hv⟩,
              ⟨⟨by rw [hh'.out]; exact (World.cell?_setCell_other _ _ _ _ (by simp)).trans c1, by rw [World.frozen?_setCell]; exact f1⟩, (World.cell?_setCell_other _ _ _ _ (by simp)).trans x1⟩, ⟨_, b1.kept g2 (by simp), ?_, rfl⟩, (hB'.trans kb1.1).setCell (p := ⟨H + 1, p.1.1, none⟩) (by simp) _⟩
            have hx2 := hh'.out
            simpa only [List.map_append, List.map_cons, List.map_nil, hx2] using o2
          case done =>
            rintro D zs W' hD hzs ⟨⟨⟨hc, hf⟩, hx'⟩, ⟨v, hbo, hro', rfl⟩, hB'⟩ hK
            have hone : oneL x k (zs.map (·.1)) = oneP A x k := by
              have h1 : zs.map (·.1) = backL (A.drop 1) k k := hzs
              rw [h1]; exact oneL_all hAl hx8
            rw [hone] at hro'
            have hob := oneP_all hAb x k
            have hoe := ev_lt hob x
            have hBW : Below W.heap.size W W' := hB'.mono hHge
            have oN1 := ownsRow_below oN hBW
            have oA1 := ownsRow_below oA hBW
            have hM1 := hM.below hBW
            have hgs : gs < H := by rw [hH'.out]; exact own_lt oN
            have hgsB : w.heap.size ≤ gs := by obtain ⟨_, _, hv, _, _, h⟩ := own_form oN; cases hv; rcases h with ⟨h, _⟩ | ⟨_, h, h2, _⟩; cases h; cases h; exact h2
            have yc1 := (hBW.cell (p := ⟨yb, yo + i, none⟩) (Nat.lt_of_lt_of_le hylt (Nat.le_refl _))).trans hyc
            have hB1 := hB.trans (hBW.mono hB.size)
            have hM2 : Marks w.heap.size ({ target := .collected D, args := #[] } :: ds) W' :=
              ⟨⟨D, rfl, by have := hB.size; omega, hK⟩, hM.lt (by omega), hM1⟩
            clear hM hM1 hBW oN oA hB hc hf hD hK hone hzs hyc bX bO bC bN oL bV hRA oAV
            have hS1 := hstep.out.all
            generalize oneP A x k = O at *
            generalize hkv0 : Gf.mul yv (Gf.inv (ev O x)) = kv at *
            have hkv0 := hid hkv0
            go_wp2_with fail
            refine wp_region_can_all [6, 7] [0, 1, 2, 3, 4, 5, 6, 7, 8, 9, 10, 11, 12] Ext Ext.refl Ext.trans (by kernel_rfl) (by kernel_rfl) ?_
            have hdw : Below W'.heap.size W' W'.drew := (Below.refl _ W').drew
            have cd : W'.drew.cell? ⟨H + 1 + 1, 0, none⟩ = some (.slice (some ⟨H + 1, 0, none⟩) k k) := hbo.cell
            have xd : W'.drew.cell? ⟨H, 0, none⟩ = some (.int .u8 (x : Int)) := hx'
            have yd : W'.drew.cell? ⟨yb, yo + i, none⟩ = some (.int .u8 (yv : Int)) := yc1
            have oNd : W'.drew.ownsRow w.heap.size 5 1 (.slice (some ⟨gs, 0, none⟩) k k) k (vb S) := oN1.drew
            have oAd : W'.drew.ownsRow w.heap.size 5 1 (.slice (some ⟨g, 0, none⟩) (k + 1) c) (k + 1) (vb A) := oA1.drew
            have oOd : W'.drew.ownsRow H 5 1 (.slice (some ⟨H + 1, 0, none⟩) k k) k (vb O) := hro'.drew
            have hMd := hM2.below hdw
            have hBd := hB1.trans (hdw.mono hB1.size)
            clear oN1 oA1 hro' hM2 hB1 hdw yc1 hx' hbo hB'
            generalize W'.drew = wd at *
            have cd' : ∀ w', Ext wd w' → w'.cell? ⟨H + 1 + 1, 0, none⟩ = some (.slice (some ⟨H + 1, 0, none⟩) k k) := fun w' hw => (hw.cell (p := ⟨H + 1 + 1, 0, none⟩) (World.block_lt_of_cell? wd _ cd)).trans cd
            have xd' : ∀ w', Ext wd w' → w'.cell? ⟨H, 0, none⟩ = some (.int .u8 (x : Int)) := fun w' hw => (hw.cell (p := ⟨H, 0, none⟩) (World.block_lt_of_cell? wd _ xd)).trans xd
            have yd' : ∀ w', Ext wd w' → w'.cell? ⟨yb, yo + i, none⟩ = some (.int .u8 (yv : Int)) := fun w' hw => (hw.cell (p := ⟨yb, yo + i, none⟩) (World.block_lt_of_cell? wd _ yd)).trans yd
            simp only [List.map_cons, List.map_nil, List.contains_cons, List.contains_nil, List.getD_cons_zero, List.getD_cons_succ, Nat.reduceBEq, Bool.or_false, Bool.or_true]
            repeat (refine wpL_do rfl (fun w' hw' => (by go_simp; rfl)) ?_; simp only [Act.put, List.setIfInBounds_toArray, List.set_cons_succ, List.set_cons_zero])
            refine wpL_call rfl (fun K hK => ?_)
            go_wp2_with fail
            refine (at_ok (some ⟨H + 1, 0, none⟩) k k O hob x hx8 (by omega) wd (Rd.ofOwn oOd)).mono ?_
            rintro e wa ⟨⟨va, rfl, hva, Hva⟩, Ba⟩
            refine hK _ _ Ba ?_
            clear hK K cd' xd' yd'
            try simp only [Act.put, List.setIfInBounds_toArray, List.set_cons_succ, List.set_cons_zero]
            have hv0 : va ≠ 0 := by rw [Hva.out]; exact hself.out
            have oNa := ownsRow_below oNd Ba
            have oAa := ownsRow_below oAd Ba
            have oOa := ownsRow_below oOd Ba
            have hMa := hMd.below Ba
            have hBa := hBd.trans (Ba.mono hBd.size)
            have ca := (Ba.cell (p := ⟨H + 1 + 1, 0, none⟩) (World.block_lt_of_cell? wd _ cd)).trans cd
            clear oNd oAd oOd hMd hBd cd xd yd
            repeat (refine wpL_do rfl (fun w' hw' => (by go_simp; rfl)) ?_; simp only [Act.put, List.setIfInBounds_toArray, List.set_cons_succ, List.set_cons_zero])
            refine wpL_call rfl (fun K hK => ?_)
            go_wp2_with fail
            refine (div_st yv va wa hyi hva hv0).mono ?_
            rintro e wb ⟨rfl, hwb⟩
            subst hwb
            refine hK _ _ (Ext.refl _) ?_
            clear hK K
            try simp only [Act.put, List.setIfInBounds_toArray, List.set_cons_succ, List.set_cons_zero]
            have hkv : Hid (Gf.mul yv (Gf.inv va) = kv) := by rw [Hva.out]; exact hkv0.out
            have hkl : Gf.mul yv (Gf.inv va) < 256 := Gf.mul_lt _ _ hyi
            generalize Gf.mul yv (Gf.inv va) = kw at *
            repeat (refine wpL_do rfl (fun w' hw' => (by go_simp; rfl)) ?_; simp only [Act.put, List.setIfInBounds_toArray, List.set_cons_succ, List.set_cons_zero])
            refine wpL_nil ?_
            go_wp2_with fail
            refine (add_any w.heap.size gs k k S O (some ⟨H + 1, 0, none⟩) k k _ _ _ oNa hSb (Rd.ofOwn oOa) hob (fun b off _ h => by cases h; omega) (by omega) (by omega) (by omega) (by omega) (by omega)).mono ?_
            rintro e wc ⟨rfl, oNc, gc⟩
            rw [hkv.out, Int.toNat_natCast] at oNc
            obtain ⟨cu, hcu⟩ : ∃ cu, wb.heap[gs]? = some (.cells cu 5) := by
              rcases oNa.2 with ⟨h, _⟩ | ⟨g', cap, cur, hv, _, hg, _⟩
              · cases h
              · cases hv; exact ⟨cur, hg⟩
            have hMc := hMa.grown gc hcu
            have oAc := oAa.kept gc (.inr (by simp [Value.ownBlock]; omega))
            have hBc := hBa.grown gc hBa.size (fun k e => by cases e; exact hgsB)
            clear hMa oAa oNa oOa hBa hcu gc ca
            go_wp2_with fail
            refine ⟨⟨i + 1, _, _, _, _, _, _, _, _, _, _, _, _, _, _, _, _, _, _, _, _, _, _, _, _, _, _, _, _, _, _, _, _, _, _, _, _, _, _, _, _, _, _, _, _, _, _, _, rfl, by omega, hstep, oNc, oAc, hBc, hMc⟩, ?_⟩
            simp [intOf]; omega
          case stop =>
            rintro D c pre W _ _ h _
            exact h.elim
        · obtain rfl : i = k := by omega
          have hSb := hU.out.all
          have hSl : S.length = i := by have := hU.out.len; omega
          go_wp2_with fail
          refine (trimmed_any _ _ _ _ _ (Rd.ofOwn oN) hSb (by omega)).mono ?_
          rintro e w3 ⟨ao, m3, c3, rfl, rfl, o3, hb3⟩
          have hM3 := hM.below hb3
          have hB3 := hB.trans (hb3.mono hB.size)
          have o3 := ownsRow_mono o3 hB.size
          go_wp2_with fail
          change LeavesInM Fence.wide 8 Try.prog Try.f15 _ _ ds .returning w3
          refine leaves_marks (B := w.heap.size) ds w3 hM3 (fun W' hb hk => ⟨_, results_tmp2 rfl _ _ _, ⟨ao, c3, S, rfl, ?_, ownsRow_cells o3 hk⟩, hB3.trans hb⟩)
          rw [hxl]
          exact hU.out
end Go.Proofs.Ytiejjjbnhkdfeaa
