/- DeleteFunc: what has a window's age is struck. -/
import Derived.Test.YtkgnelmnadnbhaaBlindG
import Derived.Lib.SliceRun
import Derived.Test.YtkgnelmnadnbhaaAtDst
namespace Go.Proofs.Ytkgnelmnadnbhaa
set_option linter.unusedVariables false
open Go.RowKit

/-- where the window is found: the pointer's box, the window's cell -/
structure Win (w : World) (H X win : Nat) : Prop where
  p : w.cell? ⟨H, 0, none⟩ = some (.pointer (some ⟨X, 0, none⟩))
  c : w.cell? ⟨X, 9, none⟩ = some (.int .i64 (win : Int))
theorem old_fn (x win H X : Nat) (w : World) (hw : Win w H X win) : Calls Try.prog 24 #[.int .i64 (x : Int), .pointer (some ⟨H, 0, none⟩)] w fun e w' => e = .returned (.bool (decide (x = win))) ∧ w' = w := by
  obtain ⟨h1, h2⟩ := hw
  by_cases hx : x = win
  · subst hx
    go_enter Try.func24, Try.ntmps24
    go_wp2_with fail
    go_ret
    exact ⟨by simp, rfl⟩
  · have hb : ((x : Int) == win) = false := by simp; omega
    rw [decide_eq_false hx]
    clear hx
    go_enter Try.func24, Try.ntmps24
    go_wp2_with fail
    go_ret
    exact ⟨rfl, rfl⟩
theorem idxw_no (a : Option Addr) (n cap win H X : Nat) (l : List Nat) (w : World) (hr : Rd w a n cap (vi l)) (hn : n ≤ 1000) (h : ∀ i, i < n → nth l i ≠ win) (hw : Win w H X win) :
    Calls Try.prog 28 #[.slice a n cap, .func (.func 24) #[] #[.pointer (some ⟨H, 0, none⟩)]] w fun e w' => e = .returned (.int .i64 (-1)) ∧ w' = w := by
  go_enter Try.func28, Try.ntmps28
  go_wp2_with fail
  go_loopw [8] (fun i wr => ∃ j : Nat, j ≤ n ∧ i = .int .i64 j ∧ wr = w) (fun i _ => n - (intOf i).toNat)
  case atStart => exact ⟨0, by omega, rfl, rfl⟩
  case round =>
    obtain ⟨j, hj, rfl, rfl⟩ := hrel
    by_cases hlt2 : j < n
    · obtain ⟨b, o, rfl, hbl, hbc⟩ := hr.ati j hlt2
      have hf := old_fn (nth l j) win H X wr hw
      rw [decide_eq_false (h j hlt2)] at hf
      generalize nth l j = x at *
      clear hr h
      go_wp2_with fail
      refine hf.mono ?_
      rintro e w' ⟨rfl, rfl⟩
      go_wp2_with fail
      go_roundw
      case rel => exact ⟨j + 1, by omega, by go_num, trivial⟩
      case measure => simp [intOf]; omega
    · obtain rfl : n = j := by omega
      go_wp2_with fail
      go_ret
      exact ⟨rfl, rfl⟩
theorem idxw_yes (a : Option Addr) (n cap win H X k : Nat) (l : List Nat) (w : World) (hr : Rd w a n cap (vi l)) (hn : n ≤ 1000) (hk : k < n) (h : ∀ i, i < k → nth l i ≠ win) (hkw : nth l k = win) (hw : Win w H X win) :
    Calls Try.prog 28 #[.slice a n cap, .func (.func 24) #[] #[.pointer (some ⟨H, 0, none⟩)]] w fun e w' => e = .returned (.int .i64 (k : Int)) ∧ w' = w := by
  go_enter Try.func28, Try.ntmps28
  go_wp2_with fail
  go_loopw [8] (fun i wr => ∃ j : Nat, j ≤ k ∧ i = .int .i64 j ∧ wr = w) (fun i _ => n - (intOf i).toNat)
  case atStart => exact ⟨0, by omega, rfl, rfl⟩
  case round =>
    obtain ⟨j, hj, rfl, rfl⟩ := hrel
    obtain ⟨b, o, rfl, hbl, hbc⟩ := hr.ati j (by omega)
    have hjn : j < n := by omega
    have hf := old_fn (nth l j) win H X wr hw
    by_cases hjk : j < k
    · rw [decide_eq_false (h j hjk)] at hf
      generalize nth l j = x at *
      clear hr h hkw
      go_wp2_with fail
      refine hf.mono ?_
      rintro e w' ⟨rfl, rfl⟩
      go_wp2_with fail
      go_roundw
      case rel => exact ⟨j + 1, by omega, by go_num, trivial⟩
      case measure => simp [intOf]; omega
    · obtain rfl : k = j := by omega
      rw [hkw, decide_eq_true rfl] at hf
      rw [hkw] at hbc
      clear hr h hkw
      go_wp2_with fail
      refine hf.mono ?_
      rintro e w' ⟨rfl, rfl⟩
      go_wp2_with fail
      go_ret
      exact ⟨rfl, rfl⟩
/-- 'clear(s)' of a row that is not empty -/
theorem wpList_clear_at {P : Program} {w : World} {ops : Array Oper} {rest : List Oper} {o : Oper} {a : Act} {Q : Exit → Act → World → Prop} (hgd : o.guard = none) (x : Operand) (t e : TypeId)
    (ho : o.op = .call { callee := .builtin .clear, args := #[x], argTypes := #[t] }) (z : Value) (ht : P.underlying t = some (.slice e)) (hv : ∀ w, (zeroValue e).run P w = .ok z w) (hz : z.cells = #[z]) (h1 : z.oneCell' = true)
    (b o' n c : Nat) (hn : 0 < n) (hx : a.eval x = .slice (some ⟨b, o', none⟩) n c) (hc : ∀ j, j < n → (w.cell? ⟨b, o' + j, none⟩).isSome = true) (hf : ∀ j, j < n → w.frozen? ⟨b, o' + j, none⟩ = false)
    (h : wpList P ops Q rest (a.put o.dst (.tuple #[])) (w.setCells b o' (List.replicate n z))) : wpList P ops Q (o :: rest) a w := by
  refine wpList_plain hgd fun K hK => ?_
  have hrun := Lib.run_clear_slice (P := P) w t e o.type z ht hv hz h1 b o' n c hn hc hf
  unfold Oper.wp
  simp [execOp, ho, resolve, invoke, builtin, hx, hrun, Result.andThen]
  exact hK _ _ h
/-- what is not struck -/
def kp (win : Nat) (l : List Nat) : List Nat := l.filter (fun x => !decide (x = win))
theorem kp_snoc (win x : Nat) (l : List Nat) : kp win (l ++ [x]) = kp win l ++ (if x = win then [] else [x]) := by
  unfold kp
  rw [List.filter_append]
  congr 1
  by_cases h : x = win <;> simp [h]
theorem kp_len (win : Nat) (l : List Nat) : (kp win l).length ≤ l.length := List.length_filter_le _ _
theorem kp_all (win : Nat) (l : List Nat) (h : ∀ i, i < l.length → nth l i ≠ win) : kp win l = l := by
  unfold kp
  rw [List.filter_eq_self]
  intro x hx
  obtain ⟨i, hi, rfl⟩ := List.getElem_of_mem hx
  have := h i hi
  rw [nth_get hi] at this
  simpa using this
theorem first_idx (win : Nat) (l : List Nat) : (∀ i, i < l.length → nth l i ≠ win) ∨ ∃ k, k < l.length ∧ (∀ i, i < k → nth l i ≠ win) ∧ nth l k = win := by
  suffices key : ∀ m, m ≤ l.length → (∀ i, i < m → nth l i ≠ win) ∨ ∃ k, k < m ∧ (∀ i, i < k → nth l i ≠ win) ∧ nth l k = win from key l.length (Nat.le_refl _)
  intro m
  induction m with
  | zero => intro _; exact .inl (fun i hi => by omega)
  | succ m ih =>
    intro hm
    rcases ih (by omega) with h | ⟨k, hk, h1, h2⟩
    · by_cases e : nth l m = win
      · exact .inr ⟨m, by omega, h, e⟩
      · refine .inl (fun i hi => ?_)
        by_cases e2 : i = m
        · rw [e2]; exact e
        · exact h i (by omega)
    · exact .inr ⟨k, by omega, h1, h2⟩
theorem take_kp (win : Nat) (l : List Nat) (j : Nat) (hj : j < l.length) : kp win (l.take (j + 1)) = kp win (l.take j) ++ (if nth l j = win then [] else [nth l j]) := by
  rw [List.take_succ_eq_append_getElem hj, kp_snoc, nth_get hj]
theorem set_take (c : List Nat) (i x : Nat) (h : i < c.length) : (c.set i x).take (i + 1) = c.take i ++ [x] := by
  rw [List.take_succ_eq_append_getElem (by simpa using h), List.take_set_of_le (Nat.le_refl _), List.getElem_set_self]
theorem set_drop (c : List Nat) (i x j : Nat) (h : i < j) : (c.set i x).drop j = c.drop j := by
  refine List.ext_getElem? fun k => ?_
  rw [List.getElem?_drop, List.getElem?_drop, List.getElem?_set_ne (by omega)]
theorem drop_nth (c l : List Nat) (j : Nat) (h : c.drop j = l.drop j) : nth c j = nth l j := by
  have h1 : (c.drop j)[0]? = (l.drop j)[0]? := by rw [h]
  rw [List.getElem?_drop, List.getElem?_drop, Nat.add_zero] at h1
  unfold nth
  rw [List.getD_eq_getElem?_getD, List.getD_eq_getElem?_getD, h1]
theorem drop_next (c l : List Nat) (j : Nat) (h : c.drop j = l.drop j) : c.drop (j + 1) = l.drop (j + 1) := by
  rw [← List.drop_drop, ← List.drop_drop, h]

set_option maxRecDepth 100000 in
set_option maxHeartbeats 4000000 in
theorem del_ok (g o n cap win H X B : Nat) (l : List Nat) (w : World) (h : OwnAt w B 3 (.slice (some ⟨g, o, none⟩) n cap) n (vi l)) (hw : Win w H X win) (hH : H ≠ g) (hX : X ≠ g) (hn : n ≤ 1000) :
    Calls Try.prog 23 #[.slice (some ⟨g, o, none⟩) n cap, .func (.func 24) #[] #[.pointer (some ⟨H, 0, none⟩)]] w fun e w' => e = .returned (.slice (some ⟨g, o, none⟩) (kp win l).length cap) ∧
      OwnAt w' B 3 (.slice (some ⟨g, o, none⟩) (kp win l).length cap) (kp win l).length (vi (kp win l)) ∧ w.grownBy w' (some g) := by
  have hl : l.length = n := by have := h.1; rwa [vi_len] at this
  rcases first_idx win l with hno | ⟨k, hk, hk1, hk2⟩
  · have hi := idxw_no (some ⟨g, o, none⟩) n cap win H X l w h.rd hn (fun i hi => hno i (by omega)) hw
    rw [kp_all win l hno, hl]
    clear hno
    go_enter Try.func23, Try.ntmps23
    go_wp2_with fail
    refine hi.mono ?_
    rintro e w' ⟨rfl, rfl⟩
    go_wp2_with fail
    go_ret
    exact ⟨rfl, h, World.grownBy.refl _ _⟩
  · have hi := idxw_yes (some ⟨g, o, none⟩) n cap win H X k l w h.rd hn (by omega) hk1 hk2 hw
    have hkp : kp win (l.take k) = l.take k := kp_all win _ (fun i hi => by
      rw [List.length_take] at hi
      rw [show nth (l.take k) i = nth l i by unfold nth; rw [List.getD_eq_getElem?_getD, List.getD_eq_getElem?_getD, List.getElem?_take, if_pos (by omega)]]
      exact hk1 i (by omega))
    have hstart : kp win (l.take (k + 1)) = l.take k := by
      rw [take_kp win l k hk, hkp, if_pos hk2, List.append_nil]
    have hsl : (l.take k).length = k := by rw [List.length_take]; omega
    have hkn : k < n := by omega
    have Hl := hid hl
    have Hst := hid hstart
    have Hk := hid hsl
    have Hown := hid h
    clear hkp hk1 hk2 hstart hsl hl
    go_enter Try.func23, Try.ntmps23
    go_wp2_with fail
    refine hi.mono ?_
    rintro e w' ⟨rfl, rfl⟩
    obtain ⟨U, rfl⟩ : ∃ U : World, U = w' := ⟨_, rfl⟩
    have hk3 : ((k : Int) == -1) = false := by simp
    clear hi h
    go_wp2_with fail
    go_loopw [5, 6] (fun iv jv wr => ∃ (j : Nat) (c : List Nat), j ≤ n ∧ jv = .int .i64 j ∧ iv = .int .i64 ((kp win (l.take j)).length : Nat) ∧ Hid (c.length = n) ∧ (kp win (l.take j)).length < j ∧ Hid (c.take (kp win (l.take j)).length = kp win (l.take j)) ∧ Hid (c.drop j = l.drop j) ∧
      Hid (OwnAt wr B 3 (.slice (some ⟨g, o, none⟩) n cap) n (vi c)) ∧ U.grownBy wr (some g)) (fun _ j _ => n - (intOf j).toNat)
    case atStart => exact ⟨k + 1, l, by omega, by go_num, by rw [Hst.out, Hk.out], Hl, by rw [Hst.out, Hk.out]; omega, by unfold Hid; rw [Hst.out, Hk.out], rfl, Hown, World.grownBy.refl _ _⟩
    case round =>
      obtain ⟨j, c, hj, rfl, rfl, hc, hij, htk, hdr, hO, hG⟩ := hrel
      by_cases hlt : j < n
      · obtain ⟨b, off, hbo, hbl, hbc⟩ := hO.out.rd.ati j hlt
        cases hbo
        have hx := drop_nth c l j hdr.out
        rw [hx] at hbc
        have hWr : Win wr H X win := ⟨(World.cell?_of_block (w := U) (a := ⟨H, 0, none⟩) (hG.block H (block_lt_of_cell hw.p) (fun e => by cases e; exact hH rfl))).trans hw.p, (World.cell?_of_block (w := U) (a := ⟨X, 9, none⟩) (hG.block X (block_lt_of_cell hw.c) (fun e => by cases e; exact hX rfl))).trans hw.c⟩
        have hf := old_fn (nth l j) win H X wr hWr
        have htn := hid (take_kp win l j (by have := Hl.out; omega))
        have hdn := hid (drop_next c l j hdr.out)
        by_cases hxw : nth l j = win
        · rw [decide_eq_true hxw] at hf
          rw [if_pos hxw, List.append_nil] at htn
          generalize nth l j = x at *
          have HG := hid hG
          have hij := hid hij
          clear hG hx hWr hxw
          generalize hn1 : kp win (l.take (j + 1)) = k1 at *
          have Hn1 := hid hn1
          clear hn1
          generalize kp win (l.take j) = k0 at *
          go_wp2_with fail
          refine hf.mono ?_
          rintro e w' ⟨rfl, rfl⟩
          clear hf
          go_wp2_with fail
          go_roundw
          case rel => exact ⟨j + 1, c, by omega, by go_num, by rw [Hn1.out, htn.out], hc, by rw [Hn1.out, htn.out]; have := hij.out; omega, by unfold Hid; rw [Hn1.out, htn.out]; exact htk.out, hdn, hO, HG.out⟩
          case measure => simp [intOf]; omega
        · rw [decide_eq_false hxw] at hf
          rw [if_neg hxw] at htn
          generalize nth l j = x at *
          generalize hn1 : kp win (l.take (j + 1)) = k1 at *
          have Hn1 := hid hn1
          clear hn1
          generalize kp win (l.take j) = k0 at *
          have hi0 : k0.length < c.length := by have := hc.out; omega
          obtain ⟨q1, q2⟩ := hO.out.set k0.length (by have := hc.out; omega) (.int .i64 (x : Int))
          rw [vi_set] at q1
          have Q1 := hid q1
          have Q2 := hid (grownBy_trans hG q2)
          have Hst2 := hid (set_take c k0.length x hi0)
          have Hdr2 := hid (set_drop c k0.length x (j + 1) (by omega))
          have f1 : (wr.cell? ⟨g, o + k0.length, none⟩) = some (.int .i64 (nth c k0.length : Nat)) := by
            obtain ⟨b, off, hbo, _, h2⟩ := hO.out.rd.ati k0.length (by omega)
            cases hbo
            exact h2
          obtain ⟨g', o', c', hv, _, _, hfr⟩ := hO.out.at_ (by omega)
          cases hv
          have f2 := (hfr k0.length (by omega)).2
          have hin : (k0.length : Int) < (n : Int) := by omega
          clear hG hx hWr hxw q1 q2 hi0 hfr
          obtain ⟨ki, hki⟩ : ∃ ki, ki = k0.length := ⟨_, rfl⟩
          have Hki := hid hki
          rw [← hki] at f1 f2 hin hij Q1 Q2 ⊢
          clear hki
          have Hij := hid hij
          go_wp2_with fail
          refine hf.mono ?_
          rintro e w' ⟨rfl, rfl⟩
          clear hf
          go_wp2_with fail
          go_roundw
          case rel => exact ⟨j + 1, c.set ki x, by omega, by go_num, by rw [Hn1.out, htn.out, List.length_append, ← Hki.out]; rfl, by unfold Hid; rw [List.length_set]; exact hc.out, by rw [Hn1.out, htn.out, List.length_append, ← Hki.out]; have := Hij.out; simp; omega, by unfold Hid; rw [Hn1.out, htn.out, List.length_append, List.length_singleton, Hki.out, Hst2.out, htk.out], by unfold Hid; rw [Hki.out, Hdr2.out]; exact hdn.out, Q1, Q2.out⟩
          case measure => simp [intOf]; omega
      · obtain rfl : n = j := by omega
        have hfin : Hid (kp win (l.take n) = kp win l) := by
          unfold Hid
          rw [List.take_of_length_le (by have := Hl.out; omega)]
        rw [hfin.out] at htk hij ⊢
        generalize hk0 : kp win l = k0 at *
        have Hk0 := hid hk0
        clear hk0
        obtain ⟨m, hm⟩ : ∃ m, m = k0.length := ⟨_, rfl⟩
        have Hm := hid hm
        rw [← hm] at hij htk ⊢
        clear hm
        have hO := hO.out
        have hdp := hO.drop m (by omega)
        have hle : n ≤ cap := by obtain ⟨ao, cp, hv, h1, h2⟩ := hO.form; cases hv; exact h1
        have hcm : (if cap = m then o else o + m) = o + m := if_neg (by omega)
        rw [hcm] at hdp
        obtain ⟨g', o', c', hv, _, hgl, hfr⟩ := hdp.at_ (by omega)
        cases hv
        have hc2 := hc.out
        have hlen : (vi c).length = n := by rw [vi_len]; exact hc2
        have hsome : ∀ j, j < n - m → (wr.cell? ⟨g, o + m + j, none⟩).isSome = true := fun j hj => by
          rw [(hfr j hj).1, List.getElem?_drop, List.getElem?_eq_getElem (by omega)]
          rfl
        have hfz : ∀ j, j < n - m → wr.frozen? ⟨g, o + m + j, none⟩ = false := fun j hj => (hfr j hj).2
        have Hs := hid (And.intro hsome hfz)
        have hres : OwnAt (wr.setCells g (o + m) (List.replicate (n - m) (.int .i64 0))) B 3 (.slice (some ⟨g, o, none⟩) m cap) m (vi k0) ∧ wr.grownBy (wr.setCells g (o + m) (List.replicate (n - m) (.int .i64 0))) (some g) := by
          have h1 := hO.take m (by omega)
          rw [show (vi c).take m = vi k0 by rw [← htk.out]; simp [vi]] at h1
          exact OwnAt.behinds _ m wr (Nat.le_refl _) h1
        have hclr := Lib.run_clear_slice (P := Try.prog) wr 22 3 0 (.int .i64 0) Try.underlying22 (fun w => by kernel_rfl) rfl rfl g (o + m) (n - m) (cap - m) (by omega) hsome hfz
        have hmn : (m : Int) ≤ (n : Int) := by omega
        have hmc : (m : Int) ≤ (cap : Int) := by omega
        have Hres := hid (And.intro hres.1 (grownBy_trans hG hres.2))
        have hc3 : (cap = m) = False := by simp; omega
        clear hres hsome hfz hfr hdp hO hc2 hlen hG hcm
        generalize wr.setCells g (o + m) (List.replicate (n - m) (.int .i64 0)) = W9 at *
        go_wp2_with fail
        go_ret
        rw [Hk0.out, ← Hm.out]
        exact ⟨rfl, Hres.out.1, Hres.out.2⟩
end Go.Proofs.Ytkgnelmnadnbhaa
