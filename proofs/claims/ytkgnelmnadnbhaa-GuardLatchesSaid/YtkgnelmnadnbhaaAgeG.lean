/- A vigil at work in memory; age. -/
import Derived.Test.YtkgnelmnadnbhaaDelG
namespace Go.Proofs.Ytkgnelmnadnbhaa
set_option linter.unusedVariables false
open Go.RowKit

/-- a vigil at work -/
structure St where
  safe : Bool
  why : Int
  bad : List Nat
  trp : List Bool
  quiet : Nat
  trips : List Nat
  now : List Nat
/-- a guard in memory -/
structure GP where
  g : Nat
  n : Nat
  cap : Nat
  sil : Nat
  most : Nat
  win : Nat
  nam : ByteArray
def rowX (p : GP) (s : St) (bv tv pv nv : Value) : Array Value := #[.bool s.safe, .int .i64 s.why, bv, tv, .int .i64 (s.quiet : Int), pv, .slice (some ⟨p.g, 0, none⟩) p.n p.cap, .int .i64 (p.sil : Int), .int .i64 (p.most : Int), .int .i64 (p.win : Int), .string p.nam, nv]
/-- two slices lie apart -/
def Apart (u v : Value) : Prop := ∀ k, u.ownBlock = some k → v.ownBlock ≠ some k
theorem Apart.symm {u v : Value} (h : Apart u v) : Apart v u := fun k h1 h2 => h k h2 h1
structure VS (w : World) (X B : Nat) (p : GP) (s : St) (bv tv pv nv : Value) : Prop where
  row : w.heap[X]? = some (.cells (rowX p s bv tv pv nv) 52)
  hX : B ≤ X
  b : OwnAt w B 3 bv s.bad.length (vi s.bad)
  t : OwnAt w B 4 tv s.trp.length (vt s.trp)
  p_ : OwnAt w B 3 pv s.trips.length (vi s.trips)
  n : OwnAt w B 3 nv s.now.length (vi s.now)
  bp : Apart bv pv
  bn : Apart bv nv
  pn : Apart pv nv
theorem Apart.row {u v : Value} (h : Apart u v) : u.ownBlock = none ∨ u.ownBlock ≠ v.ownBlock := by
  cases hu : u.ownBlock with
  | none => exact .inl rfl
  | some k => exact .inr (fun e => h k hu (by rw [← e]))
theorem del_any (cap win H X B : Nat) (v : Value) (l : List Nat) (w : World) (h : OwnAt w B 3 v l.length (vi l)) (hw : Win w H X win) (hH : v.ownBlock ≠ some H) (hX : v.ownBlock ≠ some X) (hn : l.length ≤ 1000) :
    Calls Try.prog 23 #[v, .func (.func 24) #[] #[.pointer (some ⟨H, 0, none⟩)]] w fun e w' => ∃ v', e = .returned v' ∧
      OwnAt w' B 3 v' (kp win l).length (vi (kp win l)) ∧ w.grownBy w' v.ownBlock ∧ v'.ownBlock = v.ownBlock := by
  rcases h.2 with ⟨hv, h0⟩ | ⟨g, o, cap, cur, hv, h2, h3, h4, h5, h6, h7⟩
  · subst hv
    obtain rfl : l = [] := List.eq_nil_of_length_eq_zero h0
    have hi := idxw_no none 0 0 win H X [] w (h.rd) (by omega) (fun i hi => by omega) hw
    go_enter Try.func23, Try.ntmps23
    go_wp2_with fail
    refine hi.mono ?_
    rintro e w' ⟨rfl, rfl⟩
    go_wp2_with fail
    go_ret
    exact ⟨_, rfl, OwnAt.nil _ _ _, World.grownBy.refl _ _, rfl⟩
  · subst hv
    refine (del_ok g o l.length cap win H X B l w h hw (fun e => hH (by rw [e]; rfl)) (fun e => hX (by rw [e]; rfl)) hn).mono ?_
    rintro e w' ⟨rfl, h1, h2⟩
    exact ⟨_, rfl, h1, h2, rfl⟩
/-- the ages of the first j go up -/
def incTo (l : List Nat) (j : Nat) : List Nat := (l.take j).map (· + 1) ++ l.drop j
theorem incTo_len (l : List Nat) (j : Nat) : (incTo l j).length = l.length := by
  unfold incTo
  rw [List.length_append, List.length_map, List.length_take, List.length_drop]
  omega
theorem incTo_zero (l : List Nat) : incTo l 0 = l := by simp [incTo]
theorem incTo_all (l : List Nat) : incTo l l.length = l.map (· + 1) := by simp [incTo]
theorem incTo_nth (l : List Nat) (j : Nat) (h : j < l.length) : nth (incTo l j) j = nth l j := by
  unfold incTo nth
  have e : ((l.take j).map (· + 1)).length = j := by rw [List.length_map, List.length_take]; omega
  rw [List.getD_eq_getElem?_getD, List.getD_eq_getElem?_getD, List.getElem?_append_right (by omega), e, Nat.sub_self, List.getElem?_drop, Nat.add_zero]
theorem incTo_set (l : List Nat) (j : Nat) (h : j < l.length) : (incTo l j).set j (nth l j + 1) = incTo l (j + 1) := by
  unfold incTo
  have e : ((l.take j).map (· + 1)).length = j := by rw [List.length_map, List.length_take]; omega
  rw [List.set_append_right _ _ (by omega), e, Nat.sub_self, List.take_succ_eq_append_getElem h, List.map_append, List.append_assoc]
  congr 1
  rw [List.drop_eq_getElem_cons h, List.set_cons_zero, nth_get h]
  rfl
/-- age, in plain words -/
def ageQ (sil q : Nat) (heard : Bool) : Nat := if heard = true then 0 else min (q + 1) sil
def ageT (win : Nat) (l : List Nat) : List Nat := kp win (l.map (· + 1))

theorem only_on {Q : Exit → Act → World → Prop} {a : Act} {w : World} (h : Q .normal a w) : OnlyOn Q .normal a w := h
set_option maxRecDepth 100000 in
set_option maxHeartbeats 4000000 in
theorem age_ok (X B : Nat) (p : GP) (s : St) (bv tv pv nv : Value) (heard : Bool) (w : World) (h : VS w X B p s bv tv pv nv) (hB : B ≤ w.heap.size) (hq : s.quiet ≤ p.sil) (hs : p.sil ≤ 19) (hpl : s.trips.length ≤ 100) (hpt : ∀ i, nth s.trips i ≤ 1000) :
    Calls Try.prog 14 #[.pointer (some ⟨X, 0, none⟩), .bool heard] w fun e w' => e = .returned (.tuple #[]) ∧ ∃ pv', VS w' X B p { s with quiet := ageQ p.sil s.quiet heard, trips := ageT p.win s.trips } bv tv pv' nv ∧ Below B w w' := by
  obtain ⟨hrow, hX, hb, ht, hp, hn, hbp, hbn, hpn⟩ := h
  obtain ⟨safe, why, bad, trp, quiet, trips, now⟩ := s
  obtain ⟨g, n, cap, sil, most, win, nam⟩ := p
  dsimp only at *
  have r1 := heap_alloc_new w (.cells #[.pointer (some ⟨X, 0, none⟩)] 50)
  have b1 := below_alloc w (.cells #[.pointer (some ⟨X, 0, none⟩)] 50)
  have r2 := hid (row_below hrow b1)
  have hXl := row_lt hrow
  have HB := hid (b1.mono hB)
  have hp' := hid (hp.below b1)
  have hb' := hid (hb.below b1)
  have ht' := hid (ht.below b1)
  have hn' := hid (hn.below b1)
  have r1 := hid r1
  obtain ⟨H, hH⟩ : ∃ H, H = w.heap.size := ⟨_, rfl⟩
  have HH := hid hH
  have hXH : X < H := by omega
  have hBH : B ≤ H := by omega
  rw [← hH] at r1
  clear hH b1 hrow hb ht hp hn
  go_enter Try.func14, Try.ntmps14
  go_upto_region 1 with (fail)
  rw [← HH.out]
  generalize w.alloc (.cells #[.pointer (some ⟨X, 0, none⟩)] 50) = U at *
  obtain ⟨q2, hq2⟩ : ∃ q2, q2 = min (quiet + 1) sil := ⟨_, rfl⟩
  have hq3 : q2 ≤ 20 := by omega
  have hmin : (if (sil : Int) < (quiet : Int) + 1 then (sil : Int) else (quiet : Int) + 1) = (q2 : Int) := by split <;> omega
  have w1 : IntKind.i64.wrap ((quiet : Int) + 1) = (quiet : Int) + 1 := by rw [IntWalk.i64_in _ (by omega)]
  refine wp_region_can 16 [] [0, 1, 2, 3, 4, 5, 6, 7, 8, 9, 10, 11, 12, 13, 14, 15] (Below U.heap.size) (fun _ => Below.refl _ _) (fun _ _ _ h k => h.trans k) (by kernel_rfl) (by kernel_rfl) ?_
  have hU : ∀ w', Below U.heap.size U.drew w' → Below U.heap.size U w' := fun w' h => ((Below.refl U.heap.size U).drew).trans h
  have e1 : ∀ w', Below U.heap.size U.drew w' → w'.cell? ⟨H, 0, none⟩ = some (.pointer (some ⟨X, 0, none⟩)) := fun w' h => by rw [cell_of_row _ _ _ _ _ _ (row_below r1.out (hU w' h))]; rfl
  have e2 : ∀ w', Below U.heap.size U.drew w' → w'.cell? ⟨X, 4, none⟩ = some (.int .i64 (quiet : Int)) := fun w' h => by rw [cell_of_row _ _ _ _ _ _ (row_below r2.out (hU w' h))]; rfl
  have e3 : ∀ w', Below U.heap.size U.drew w' → w'.cell? ⟨X, 7, none⟩ = some (.int .i64 (sil : Int)) := fun w' h => by rw [cell_of_row _ _ _ _ _ _ (row_below r2.out (hU w' h))]; rfl
  have Hq2 := hid hq2
  clear hU hq2
  simp only [List.map_cons, List.map_nil, List.contains_nil, List.getD_cons_zero, List.getD_cons_succ]
  repeat (refine wpL_do rfl (fun w' hw' => (by go_simp; rfl)) ?_; simp only [Act.put, List.setIfInBounds_toArray, List.set_cons_succ, List.set_cons_zero])
  refine wpL_nil ?_
  have r2d : U.drew.heap[X]? = some (.cells (rowX ⟨g, n, cap, sil, most, win, nam⟩ ⟨safe, why, bad, trp, quiet, trips, now⟩ bv tv pv nv) 52) := r2.out
  have f1 : U.drew.cell? ⟨X, 4, none⟩ = some (.int .i64 (quiet : Int)) := by rw [cell_of_row _ _ _ _ _ _ r2d]; rfl
  have f2 : U.drew.frozen? ⟨X, 4, none⟩ = false := frozen_row r2d 4
  obtain ⟨R3, g3⟩ := set_row (cs' := rowX ⟨g, n, cap, sil, most, win, nam⟩ ⟨safe, why, bad, trp, q2, trips, now⟩ bv tv pv nv) r2d 4 (.int .i64 (q2 : Int)) rfl
  have R3 := hid R3
  have G3 := hid (grownBy_trans (grownBy_drew U _) g3)
  clear r2d g3 e1 e2 e3 w1 hmin
  go_wp2_with fail
  refine only_on ?_
  have R3 : Hid ((U.setCell ⟨X, 4, none⟩ (.int .i64 (q2 : Int))).drew.heap[X]? = _) := R3
  have G3 : Hid (U.grownBy (U.setCell ⟨X, 4, none⟩ (.int .i64 (q2 : Int))).drew (some X)) := G3
  generalize (U.setCell ⟨X, 4, none⟩ (.int .i64 (q2 : Int))).drew = W3 at *
  go_upto_if 21 with (fail)
  clear f1 f2
  go_cut [] (fun wx => Hid (wx.heap[X]? = some (.cells (rowX ⟨g, n, cap, sil, most, win, nam⟩ ⟨safe, why, bad, trp, ageQ sil quiet heard, trips, now⟩ bv tv pv nv) 52)) ∧ U.grownBy wx (some X))
  case first =>
    cases heard
    · have e : Hid (ageQ sil quiet false = q2) := by unfold Hid ageQ; rw [Hq2.out]; rfl
      go_wp2_with fail
      go_meet
      exact ⟨by unfold Hid; rw [e.out]; exact R3.out, G3.out⟩
    · have q1 := row_grown r1.out G3.out (by omega)
      have e1 : W3.cell? ⟨H, 0, none⟩ = some (.pointer (some ⟨X, 0, none⟩)) := by rw [cell_of_row _ _ _ _ _ _ q1]; rfl
      have f1 : W3.cell? ⟨X, 4, none⟩ = some (.int .i64 (q2 : Int)) := by rw [cell_of_row _ _ _ _ _ _ R3.out]; rfl
      have f2 : W3.frozen? ⟨X, 4, none⟩ = false := frozen_row R3.out 4
      obtain ⟨R4, g4⟩ := set_row (cs' := rowX ⟨g, n, cap, sil, most, win, nam⟩ ⟨safe, why, bad, trp, 0, trips, now⟩ bv tv pv nv) R3.out 4 (.int .i64 0) rfl
      have R4 := hid R4
      have G4 := hid (grownBy_trans G3.out g4)
      clear q1 g4
      go_wp2_with fail
      go_meet
      exact ⟨R4, G4.out⟩
  case rest =>
    obtain ⟨R4, G4⟩ := hcut
    obtain ⟨W4, rfl⟩ : ∃ W4 : World, W4 = wc := ⟨_, rfl⟩
    generalize hq4 : ageQ sil quiet heard = q4 at *
    have Hq4 := hid hq4
    clear hq4
    have r1 := hid (row_grown r1.out G4 (by omega))
    have hb' := hid (hb'.out.kept G4 (hb'.out.ne r2.out (by decide)))
    have ht' := hid (ht'.out.kept G4 (ht'.out.ne r2.out (by decide)))
    have hp' := hid (hp'.out.kept G4 (hp'.out.ne r2.out (by decide)))
    have hn' := hid (hn'.out.kept G4 (hn'.out.ne r2.out (by decide)))
    have HB4 := hid (HB.out.grown G4 (by have := HB.out.size; omega) (fun k e => by cases e; exact hX))
    clear R3 G3 G4 r2 HB
    obtain ⟨ao, pc, hpv, hple, hpm⟩ := hp'.out.form
    have e1 : W4.cell? ⟨H, 0, none⟩ = some (.pointer (some ⟨X, 0, none⟩)) := by rw [cell_of_row _ _ _ _ _ _ r1.out]; rfl
    have e2 : W4.cell? ⟨X, 5, none⟩ = some pv := by rw [cell_of_row _ _ _ _ _ _ R4.out]; rfl
    rw [hpv] at e2
    have Hpv := hid hpv
    clear hpv
    have hXn := hid (hp'.out.ne R4.out (by decide))
    have hHn := hid (hp'.out.ne r1.out (by decide))
    have Hbp := hid (And.intro hbp (And.intro hbn hpn))
    rw [Hpv.out] at hp' hXn hHn Hbp
    obtain ⟨L, hL⟩ : ∃ L, L = trips.length := ⟨_, rfl⟩
    have HL := hid hL
    have hLle : L ≤ 100 := by rw [hL]; exact hpl
    rw [← hL] at e2 Hpv hp' hXn hHn Hbp
    clear hL hpl hbp hbn hpn hple
    have Hpt := hid hpt
    clear hpt
    go_wp2_with fail
    go_loopw [32] (fun i wr => ∃ j : Nat, j ≤ L ∧ i = .int .i64 j ∧ Hid (OwnAt wr B 3 (.slice ao L pc) L (vi (incTo trips j))) ∧ W4.grownBy wr (Value.slice ao L pc).ownBlock) (fun i _ => L - (intOf i).toNat)
    case atStart => exact ⟨0, by omega, rfl, by unfold Hid; rw [incTo_zero]; exact hp'.out, World.grownBy.refl _ _⟩
    case round =>
      obtain ⟨j, hj, rfl, hO, hG⟩ := hrel
      have hne : ∀ k, (Value.slice ao L pc).ownBlock = none ∨ (Value.slice ao L pc).ownBlock ≠ some k → some k ≠ (Value.slice ao L pc).ownBlock ∨ (Value.slice ao L pc).ownBlock = none := fun k h => by
        rcases h with h | h
        · exact .inr h
        · exact .inl (fun e => h e.symm)
      have q1 : wr.heap[H]? = some (.cells #[.pointer (some ⟨X, 0, none⟩)] 50) := (hG.block H (row_lt r1.out) (fun e => by
        rcases hHn.out with h | h
        · rw [h] at e; cases e
        · exact h e.symm)).trans r1.out
      have q2' := (hG.block X (row_lt R4.out) (fun e => by
        rcases hXn.out with h | h
        · rw [h] at e; cases e
        · exact h e.symm)).trans R4.out
      have e1 : wr.cell? ⟨H, 0, none⟩ = some (.pointer (some ⟨X, 0, none⟩)) := by rw [cell_of_row _ _ _ _ _ _ q1]; rfl
      have e2 : wr.cell? ⟨X, 5, none⟩ = some pv := by rw [cell_of_row _ _ _ _ _ _ q2']; rfl
      rw [Hpv.out] at e2
      by_cases hlt : j < L
      · obtain ⟨b, off, rfl, hbl, hbc⟩ := hO.out.rd.ati j hlt
        rw [incTo_nth trips j (by have := HL.out; omega)] at hbc
        have hle := Hpt.out j
        have Hset := hid (incTo_set trips j (by have := HL.out; omega))
        obtain ⟨g', o', c', hv, _, _, hfr⟩ := hO.out.at_ (by omega)
        cases hv
        have f2 := (hfr j hlt).2
        generalize nth trips j = t at *
        obtain ⟨s1, s2⟩ := hO.out.set j hlt (.int .i64 ((t + 1 : Nat) : Int))
        rw [vi_set, Hset.out] at s1
        have et : ((t + 1 : Nat) : Int) = (t : Int) + 1 := by omega
        rw [et] at s1 s2
        have S1 := hid s1
        have S2 := hid (grownBy_trans hG s2)
        have w1 : IntKind.i64.wrap ((t : Int) + 1) = (t : Int) + 1 := by rw [IntWalk.i64_in _ (by omega)]
        have hjL : (j : Int) < (L : Int) := by omega
        clear hG q1 q2' s1 s2 hfr hne
        go_wp2_with fail
        go_roundw
        case rel => exact ⟨j + 1, by omega, by go_num, S1, S2.out⟩
        case measure => simp [intOf]; omega
      · obtain rfl : L = j := by omega
        have hO2 : OwnAt wr B 3 (.slice ao L pc) (trips.map (· + 1)).length (vi (trips.map (· + 1))) := by
          have h := hO.out
          rw [HL.out, incTo_all, ← HL.out] at h
          rw [List.length_map, ← HL.out]
          exact h
        have hdel := fun W (hW : OwnAt W B 3 (.slice ao L pc) (trips.map (· + 1)).length (vi (trips.map (· + 1)))) hw => del_any pc win H X B (.slice ao L pc) (trips.map (· + 1)) W hW hw (by
          rcases hHn.out with h | h
          · rw [h]; simp
          · exact h) (by
          rcases hXn.out with h | h
          · rw [h]; simp
          · exact h) (by rw [List.length_map, ← HL.out]; omega)
        have HO2 := hid hO2
        have HG := hid hG
        have Q1 := hid q1
        have Q2 := hid q2'
        clear hO2 hG q1 q2' hne e1 e2 hO
        have kp1 : ∀ w', wr.drew.grownBy w' (Value.slice ao L pc).ownBlock → w'.heap[H]? = some (.cells #[.pointer (some ⟨X, 0, none⟩)] 50) := fun w' hg => (hg.block H (row_lt Q1.out) (fun e => by
          rcases hHn.out with h | h
          · rw [h] at e; cases e
          · exact h e.symm)).trans Q1.out
        have kp2 : ∀ w', wr.drew.grownBy w' (Value.slice ao L pc).ownBlock → w'.heap[X]? = some (.cells (rowX ⟨g, n, cap, sil, most, win, nam⟩ ⟨safe, why, bad, trp, q4, trips, now⟩ bv tv pv nv) 52) := fun w' hg => (hg.block X (row_lt Q2.out) (fun e => by
          rcases hXn.out with h | h
          · rw [h] at e; cases e
          · exact h e.symm)).trans Q2.out
        have e1 : ∀ w', wr.drew.grownBy w' (Value.slice ao L pc).ownBlock → w'.cell? ⟨H, 0, none⟩ = some (.pointer (some ⟨X, 0, none⟩)) := fun w' hg => by rw [cell_of_row _ _ _ _ _ _ (kp1 w' hg)]; rfl
        have e2 : ∀ w', wr.drew.grownBy w' (Value.slice ao L pc).ownBlock → w'.cell? ⟨X, 5, none⟩ = some (.slice ao L pc) := fun w' hg => by rw [cell_of_row _ _ _ _ _ _ (kp2 w' hg), ← Hpv.out]; rfl
        have hwin : Win wr.drew H X win := ⟨e1 _ (World.grownBy.refl _ _), by rw [cell_of_row _ _ _ _ _ _ (kp2 _ (World.grownBy.refl _ _))]; rfl⟩
        have hdel := hdel wr.drew HO2.out hwin
        have Kp2 := hid kp2
        clear kp1 kp2 hwin
        go_upto_region 9 with (fail)
        refine wp_region_can 11 [7] [0, 1, 2, 3, 4, 5, 6, 7, 8, 9, 10] (fun u u' => u.grownBy u' (Value.slice ao L pc).ownBlock) (fun u => World.grownBy.refl u _) (fun _ _ _ h k => grownBy_trans h k) (by kernel_rfl) (by kernel_rfl) ?_
        simp only [List.map_cons, List.map_nil, List.contains_cons, List.contains_nil, List.getD_cons_zero, List.getD_cons_succ, Nat.reduceBEq, Bool.or_false]
        have HG := hid (grownBy_trans HG.out (grownBy_drew wr _))
        generalize wr.drew = Y at *
        repeat (refine wpL_do rfl (fun w' hw' => (by go_simp; rfl)) ?_; simp only [Act.put, List.setIfInBounds_toArray, List.set_cons_succ, List.set_cons_zero])
        refine wpL_call rfl (fun K hK => ?_)
        go_wp2_with fail
        refine hdel.mono ?_
        rintro e W9 ⟨v9, rfl, o9, g9, eb⟩
        obtain ⟨ao9, cp9, hv9, hle9, hcp9⟩ := o9.form
        subst hv9
        refine hK _ _ g9 ?_
        clear hK K hdel e1 e2
        try simp only [Act.put, List.setIfInBounds_toArray, List.set_cons_succ, List.set_cons_zero]
        repeat (refine wpL_do rfl (fun w' hw' => (by go_simp; rfl)) ?_; simp only [Act.put, List.setIfInBounds_toArray, List.set_cons_succ, List.set_cons_zero])
        refine wpL_nil ?_
        have q9 := Kp2.out _ g9
        have f1 : W9.cell? ⟨X, 5, none⟩ = some (.slice ao L pc) := by rw [cell_of_row _ _ _ _ _ _ q9, ← Hpv.out]; rfl
        have f2 : W9.frozen? ⟨X, 5, none⟩ = false := frozen_row q9 5
        obtain ⟨R8, g8⟩ := set_row (cs' := rowX ⟨g, n, cap, sil, most, win, nam⟩ ⟨safe, why, bad, trp, q4, ageT win trips, now⟩ bv tv (.slice ao9 (kp win (trips.map (· + 1))).length cp9) nv) q9 5 (.slice ao9 (kp win (trips.map (· + 1))).length cp9) rfl
        have hG9 := grownBy_trans HG.out g9
        have ob := (hb'.out.kept hG9 (Hbp.out.1.row)).kept g8 ((hb'.out.kept hG9 (Hbp.out.1.row)).ne q9 (by decide))
        have ot := (ht'.out.kept hG9 (by
          obtain ⟨_, ⟨h, _⟩ | ⟨g1, o1, c1, cur1, h1, _, h3, _⟩⟩ := ht'.out
          · rw [h]; exact .inl rfl
          · refine .inr (fun e => ?_)
            rw [h1] at e
            rcases hp'.out.ne h3 (by decide) with h | h
            · rw [h] at e; cases e
            · exact h e.symm)).kept g8 (by
          refine OwnAt.ne (n := trp.length) (xs := vt trp) (ht'.out.kept hG9 ?_) q9 (by decide)
          obtain ⟨_, ⟨h, _⟩ | ⟨g1, o1, c1, cur1, h1, _, h3, _⟩⟩ := ht'.out
          · rw [h]; exact .inl rfl
          · refine .inr (fun e => ?_)
            rw [h1] at e
            rcases hp'.out.ne h3 (by decide) with h | h
            · rw [h] at e; cases e
            · exact h e.symm)
        have on := (hn'.out.kept hG9 (Hbp.out.2.2.symm.row)).kept g8 ((hn'.out.kept hG9 (Hbp.out.2.2.symm.row)).ne q9 (by decide))
        have op := o9.kept g8 (o9.ne q9 (by decide))
        have hB8 : Below B W4 (W9.setCell ⟨X, 5, none⟩ (.slice ao9 (kp win (trips.map (· + 1))).length cp9)) := ((Below.refl B W4).grown hG9 (by have := HB4.out.size; omega) (fun k e => (hp'.out.lt k e).1)).grown g8 (by have := HB4.out.size; have := hG9.size; omega) (fun k e => by cases e; exact hX)
        have Hfin := hid (VS.mk R8 hX ob ot op on (fun k h1 h2 => Hbp.out.1 k h1 (by rw [← eb]; exact h2)) Hbp.out.2.1 (fun k h1 h2 => Hbp.out.2.2 k (by rw [← eb]; exact h1) h2))
        have HB8 := hid (HB4.out.trans hB8)
        clear q9 R8 g8 hG9 ob ot on op hB8 o9 g9 Kp2 hle9
        go_wp2_with fail
        refine only_on ?_
        go_end0
        exact ⟨rfl, _, by rw [Hq4.out]; exact Hfin.out, HB8.out⟩
end Go.Proofs.Ytkgnelmnadnbhaa
