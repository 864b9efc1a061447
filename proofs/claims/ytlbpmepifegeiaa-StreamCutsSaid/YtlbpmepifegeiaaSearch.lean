/- Stream: search. -/
import Derived.Test.YtlbpmepifegeiaaWrong
import Derived.Test.YtlbpmepifegeiaaRegionIn
import Derived.Deep.DeepCutAuto
import Derived.Laws.EntriesVeiled
namespace Go.Proofs.Ytlbpmepifegeiaa
set_option linter.unusedVariables false
set_option linter.unusedSimpArgs false
open Go.RowKit

/-- 32 bits at a place -/
def winN (B : List Nat) (a : Nat) : Nat := numB ((B.drop a).take 32)
theorem winN_lt {B : List Nat} (h : All1 B) (a : Nat) : winN B a < 4294967296 := by
  have h1 := numB_lt ((B.drop a).take 32) ((h.drop _).take _)
  have h2 : ((B.drop a).take 32).length ≤ 32 := List.length_take_le _ _
  have h3 : (2 : Nat) ^ ((B.drop a).take 32).length ≤ 2 ^ 32 := Nat.pow_le_pow_right (by decide) h2
  have h4 : (2 : Nat) ^ 32 = 4294967296 := by decide
  unfold winN; omega
/-- a Sync that listens to B -/
structure SyIn (W : World) (sb : Nat) (s : SyV) (B : List Nat) : Prop where
  at_ : SyAt W sb s
  own : W.ownsRow 0 5 1 (.slice s.ba s.bn s.bc) s.bn (vb (B.drop s.base))
  len : s.base + s.bn = B.length
  one : All1 B
  big : B.length ≤ 140737488351232
  rF : s.F ≤ 1000
  rH : s.H ≤ 1000
  rM : s.M ≤ 1000
  rL : 1 ≤ s.L ∧ s.L ≤ 2048
  rmi : s.mi ≤ 1000000000
theorem SyIn.rd {W : World} {sb : Nat} {s : SyV} {B : List Nat} (h : SyIn W sb s B) : Rd W s.ba s.bn s.bc (vb (B.drop s.base)) := Rd.ofOwn h.own
theorem SyIn.below {W W' : World} {sb : Nat} {s : SyV} {B : List Nat} (h : SyIn W sb s B) (hb : Below W.heap.size W W') : SyIn W' sb s B := { h with at_ := h.at_.below hb, own := ownsRow_below h.own hb }
theorem SyIn.put {W : World} {sb : Nat} {s : SyV} {B : List Nat} (h : SyIn W sb s B) (i : Nat) (v : Value) (s' : SyV) (he : s.cells.setIfInBounds i v = s'.cells) (h1 : s'.ba = s.ba ∧ s'.bn = s.bn ∧ s'.bc = s.bc ∧ s'.base = s.base ∧ s'.F = s.F ∧ s'.H = s.H ∧ s'.M = s.M ∧ s'.L = s.L) (h2 : s'.mi ≤ 1000000000) :
    SyIn (W.setCell ⟨sb, i, none⟩ v) sb s' B ∧ W.grownBy (W.setCell ⟨sb, i, none⟩ v) (some sb) := by
  obtain ⟨e1, e2, e3, e4, e5, e6, e7, e8⟩ := h1
  obtain ⟨p, g⟩ := h.at_.put i v s' he
  refine ⟨⟨p, ?_, by rw [e2, e4]; exact h.len, h.one, h.big, by rw [e5]; exact h.rF, by rw [e6]; exact h.rH, by rw [e7]; exact h.rM, by rw [e8]; exact h.rL, h2⟩, g⟩
  rw [e1, e2, e3, e4]
  exact h.own.kept g (own_ne h.own (show W.heap[sb]? = _ from h.at_) (by decide))
theorem wrong_in {W : World} {sb : Nat} {s : SyV} {B : List Nat} (h : SyIn W sb s B) (a : Nat) (t : Bool) (ha : s.base ≤ a ∧ a + 32 ≤ B.length) :
    Calls Try.prog 23 #[.pointer (some ⟨sb, 0, none⟩), .int .i64 (a : Int), .bool t] W fun e w' => e = .returned (.int .i64 (wrN (winN B a) t)) ∧ Below W.heap.size W w' := by
  have hl := h.len
  have := wrong_ok sb s a t _ W h.at_ h.rd (h.one.drop _) ⟨ha.1, by omega⟩ (by have := h.big; omega)
  rw [List.drop_drop, show s.base + (a - s.base) = a by omega] at this
  exact this
theorem has_in {W : World} {sb : Nat} {s : SyV} {B : List Nat} (h : SyIn W sb s B) (a n : Nat) (ha : a < 1125899906842624) (hn : n < 1125899906842624) :
    Calls Try.prog 22 #[.pointer (some ⟨sb, 0, none⟩), .int .i64 (a : Int), .int .i64 (n : Int)] W fun e w' => e = .returned (.bool (decide (a + n ≤ B.length))) ∧ Below W.heap.size W w' := by
  have hl := h.len
  have hb := h.big
  have := has_ok sb s a n W h.at_ ha hn (by omega) (by omega)
  rwa [hl] at this

/-- does a mark lie there, and are the bits turned? -/
def hit (F : Nat) (B : List Nat) (a : Nat) : Option Bool := if wrN (winN B a) false ≤ (F : Int) then some false else if wrN (winN B a) true ≤ (F : Int) then some true else none

set_option maxRecDepth 100000 in
set_option maxHeartbeats 1000000 in
theorem search_ok (sb : Nat) (s : SyV) (B : List Nat) (W : World) (h : SyIn W sb s B) (hp : s.base ≤ s.pos) (hpl : s.pos ≤ B.length + 100) :
    Calls Try.prog 15 #[.pointer (some ⟨sb, 0, none⟩)] W fun e w' => ∃ q, s.pos ≤ q ∧ (∀ a, s.pos ≤ a → a < q → a + 32 ≤ B.length ∧ hit s.F B a = none) ∧
      ((B.length < q + 32 ∧ e = .returned (.bool false) ∧ SyIn w' sb { s with pos := q } B) ∨ (∃ t, q + 32 ≤ B.length ∧ hit s.F B q = some t ∧ e = .returned (.bool true) ∧ SyIn w' sb { s with pos := q, tu := t, mi := 0, lo := true, st := 24 } B)) ∧ W.grownBy w' (some sb) := by
  go_enter Try.func15, Try.ntmps15
  go_wp2_with fail
  go_loopw [] (fun wr => ∃ q, s.pos ≤ q ∧ q ≤ B.length + 100 ∧ (∀ a, s.pos ≤ a → a < q → a + 32 ≤ B.length ∧ hit s.F B a = none) ∧ SyIn wr sb { s with pos := q } B ∧ W.grownBy wr (some sb)) (fun wr => B.length + 101 - (intOf ((wr.cell? ⟨sb, 6, none⟩).getD undef)).toNat)
  case atStart => exact ⟨s.pos, Nat.le_refl _, hpl, fun a h1 h2 => by omega, h, ⟨rfl, rfl, rfl, Nat.le_refl _, fun _ _ _ => rfl⟩⟩
  case round =>
    obtain ⟨q, hq, hql, hno, hS, hg⟩ := hrel
    have c6 := hS.at_.cpos
    dsimp only at c6
    have Hc6 := hid c6
    have hbig := hS.big
    go_wp2_with fail
    refine (has_in hS q 32 (by omega) (by decide)).mono ?_
    rintro e V ⟨rfl, bV⟩
    have hS := hS.below bV
    have hg := grownBy_trans hg (grownBy_of_below bV _)
    clear bV
    by_cases h32 : q + 32 ≤ B.length
    · rw [decide_eq_true h32]
      have c6 := hS.at_.cpos
      have cF := hS.at_.cF
      dsimp only at c6 cF
      go_upto_region 3 with fail
      have hr := wrN_rng (winN B q) false (winN_lt hS.one q)
      have hr2 := wrN_rng (winN B q) true (winN_lt hS.one q)
      have HW0 := hid (fun (u : World) (hu : SyIn u sb { s with pos := q } B) => wrong_in hu q false ⟨by show s.base ≤ q; omega, h32⟩)
      have HW1 := hid (fun (u : World) (hu : SyIn u sb { s with pos := q } B) => wrong_in hu q true ⟨by show s.base ≤ q; omega, h32⟩)
      have HH : Hid (hit s.F B q = if wrN (winN B q) false ≤ (s.F : Int) then some false else if wrN (winN B q) true ≤ (s.F : Int) then some true else none) := rfl
      obtain ⟨r0, hr0⟩ : ∃ r, r = wrN (winN B q) false := ⟨_, rfl⟩
      obtain ⟨r1, hr1⟩ : ∃ r, r = wrN (winN B q) true := ⟨_, rfl⟩
      rw [← hr0] at hr HW0 HH
      rw [← hr1] at hr2 HW1 HH
      clear hr0 hr1
      have n0 : ∀ w', Below V.heap.size V.drew w' → w'.cell? ⟨sb, 6, none⟩ = some (.int .i64 (q : Int)) := fun w' hw => ((hS.below ((Below.refl _ V).drew)).below hw).at_.cpos
      have n1 : ∀ w', Below V.heap.size V.drew w' → w'.cell? ⟨sb, 1, none⟩ = some (.int .i64 (s.F : Int)) := fun w' hw => ((hS.below ((Below.refl _ V).drew)).below hw).at_.cF
      clear c6 cF
      refine wp_region_can_all [5] [0, 1, 2, 3, 4, 6, 7, 8, 9, 10, 5, 11, 12] (Below V.heap.size) (fun _ => Below.refl _ _) (fun _ _ _ h k => h.trans k) (by kernel_rfl) (by kernel_rfl) ?_
      simp only [List.map_cons, List.map_nil, List.contains_cons, List.contains_nil, List.getD_cons_zero, List.getD_cons_succ, Nat.reduceBEq, Bool.or_false, Bool.or_true]
      repeat (refine wpL_do rfl (fun w' hw' => (by go_simp; rfl)) ?_; simp only [Act.put, List.setIfInBounds_toArray, List.set_cons_succ, List.set_cons_zero])
      clear n0 n1
      refine wpL_call rfl (fun K hK => ?_)
      go_wp2_with fail
      refine (HW0.out V.drew (hS.below ((Below.refl _ V).drew))).mono ?_
      rintro e V2 ⟨rfl, b2⟩
      refine hK _ _ b2 ?_
      clear hK K
      try simp only [Act.put, List.setIfInBounds_toArray, List.set_cons_succ, List.set_cons_zero]
      have b2 : Below V.heap.size V V2 := (Below.refl _ V).drew.trans b2
      have hS := hS.below b2
      have hg := grownBy_trans hg (grownBy_of_below b2 _)
      clear b2
      repeat (refine wpL_do rfl (fun w' hw' => (by go_simp; rfl)) ?_; simp only [Act.put, List.setIfInBounds_toArray, List.set_cons_succ, List.set_cons_zero])
      refine wpL_nil ?_
      go_upto_region 4 with fail
      by_cases hp0 : r0 ≤ (s.F : Int)
      · rw [decide_eq_true hp0]
        rw [if_pos hp0] at HH
        refine wp_region_can_all [7] [0, 1, 2, 3, 4, 5, 6, 8, 9, 10, 11, 12, 7, 13, 14] (Below V2.heap.size) (fun _ => Below.refl _ _) (fun _ _ _ h k => h.trans k) (by kernel_rfl) (by kernel_rfl) ?_
        simp only [List.map_cons, List.map_nil, List.contains_cons, List.contains_nil, List.getD_cons_zero, List.getD_cons_succ, Nat.reduceBEq, Bool.or_false, Bool.or_true]
        (refine wpL_do rfl (fun w' hw' => (by go_simp; rfl)) ?_; simp only [Act.put, List.setIfInBounds_toArray, List.set_cons_succ, List.set_cons_zero])
        ((with_reducible refine wpL_do (v := .bool true) ?_ (fun w' hw' => ?_) ?_); (· rfl); (· rfl); simp only [Act.put, List.setIfInBounds_toArray, List.set_cons_succ, List.set_cons_zero])
        iterate 10 ((with_reducible refine wpL_pass ?_ ?_); (· rfl); simp only [Act.put, List.setIfInBounds_toArray, List.set_cons_succ, List.set_cons_zero])
        ((with_reducible refine wpL_hush ?_ (Below.refl _ _) ?_); (· rfl); simp only [Act.put, List.setIfInBounds_toArray, List.set_cons_succ, List.set_cons_zero])
        ((with_reducible refine wpL_pass ?_ ?_); (· rfl); simp only [Act.put, List.setIfInBounds_toArray, List.set_cons_succ, List.set_cons_zero])
        (refine wpL_do rfl (fun w' hw' => (by go_simp; rfl)) ?_; simp only [Act.put, List.setIfInBounds_toArray, List.set_cons_succ, List.set_cons_zero])
        refine wpL_nil ?_
        have hS := hS.below ((Below.refl _ V2).drew)
        have hg := grownBy_trans hg (grownBy_drew V2 _)
        generalize V2.drew = V3 at *
        have f7 := hS.at_.frozen 7
        have f8 := hS.at_.frozen 8
        have f11 := hS.at_.frozen 11
        have f9 := hS.at_.frozen 9
        have c7 := hS.at_.ctu
        have c8 := hS.at_.cmi
        have c9 := hS.at_.cst
        have c11 := hS.at_.clo
        dsimp only at c7 c8 c9 c11
        obtain ⟨h7, g7⟩ := hS.put 7 (.bool false) { s with pos := q, tu := false } rfl ⟨rfl, rfl, rfl, rfl, rfl, rfl, rfl, rfl⟩ hS.rmi
        obtain ⟨h8, g8⟩ := h7.put 8 (.int .i64 0) { s with pos := q, tu := false, mi := 0 } rfl ⟨rfl, rfl, rfl, rfl, rfl, rfl, rfl, rfl⟩ (Nat.zero_le _)
        obtain ⟨h11, g11⟩ := h8.put 11 (.bool true) { s with pos := q, tu := false, mi := 0, lo := true } rfl ⟨rfl, rfl, rfl, rfl, rfl, rfl, rfl, rfl⟩ (Nat.zero_le _)
        obtain ⟨h9, g9⟩ := h11.put 9 (.func (.func 24) #[] #[]) { s with pos := q, tu := false, mi := 0, lo := true, st := 24 } rfl ⟨rfl, rfl, rfl, rfl, rfl, rfl, rfl, rfl⟩ (Nat.zero_le _)
        have hg := grownBy_trans hg (grownBy_trans g7 (grownBy_trans g8 (grownBy_trans g11 g9)))
        clear g7 g8 g11 g9 h7 h8 h11 HW0 HW1
        go_wp2_with fail
        go_ret
        exact ⟨q, hq, hno, .inr ⟨false, h32, HH.out, rfl, h9⟩, hg⟩
      · rw [decide_eq_false hp0]
        rw [if_neg hp0] at HH
        have n0 : ∀ w', Below V2.heap.size V2.drew w' → w'.cell? ⟨sb, 6, none⟩ = some (.int .i64 (q : Int)) := fun w' hw => ((hS.below ((Below.refl _ V2).drew)).below hw).at_.cpos
        have n1 : ∀ w', Below V2.heap.size V2.drew w' → w'.cell? ⟨sb, 1, none⟩ = some (.int .i64 (s.F : Int)) := fun w' hw => ((hS.below ((Below.refl _ V2).drew)).below hw).at_.cF
        refine wp_region_can_all [7] [0, 1, 2, 3, 4, 5, 6, 8, 9, 10, 11, 12, 7, 13, 14] (Below V2.heap.size) (fun _ => Below.refl _ _) (fun _ _ _ h k => h.trans k) (by kernel_rfl) (by kernel_rfl) ?_
        simp only [List.map_cons, List.map_nil, List.contains_cons, List.contains_nil, List.getD_cons_zero, List.getD_cons_succ, Nat.reduceBEq, Bool.or_false, Bool.or_true]
        (refine wpL_do rfl (fun w' hw' => (by go_simp; rfl)) ?_; simp only [Act.put, List.setIfInBounds_toArray, List.set_cons_succ, List.set_cons_zero])
        ((with_reducible refine wpL_do (v := .bool false) ?_ (fun w' hw' => ?_) ?_); (· rfl); (· rfl); simp only [Act.put, List.setIfInBounds_toArray, List.set_cons_succ, List.set_cons_zero])
        ((with_reducible refine wpL_do (v := .pointer (some ⟨sb, 0, none⟩)) ?_ (fun w' hw' => ?_) ?_); (· rfl); (· (go_simp; try rfl)); simp only [Act.put, List.setIfInBounds_toArray, List.set_cons_succ, List.set_cons_zero])
        ((with_reducible refine wpL_do (v := .pointer (some ⟨sb, 0, none⟩)) ?_ (fun w' hw' => ?_) ?_); (· rfl); (· (go_simp; try rfl)); simp only [Act.put, List.setIfInBounds_toArray, List.set_cons_succ, List.set_cons_zero])
        ((with_reducible refine wpL_do (v := .pointer (some ⟨sb, 0, none⟩)) ?_ (fun w' hw' => ?_) ?_); (· rfl); (· (go_simp; try rfl)); simp only [Act.put, List.setIfInBounds_toArray, List.set_cons_succ, List.set_cons_zero])
        ((with_reducible refine wpL_do (v := .pointer (some ⟨sb, 6, none⟩)) ?_ (fun w' hw' => ?_) ?_); (· rfl); (· (go_simp; try rfl)); simp only [Act.put, List.setIfInBounds_toArray, List.set_cons_succ, List.set_cons_zero])
        ((with_reducible refine wpL_do (v := .int .i64 (q : Int)) ?_ (fun w' hw' => ?_) ?_); (· rfl); (· (go_simp; try rfl)); simp only [Act.put, List.setIfInBounds_toArray, List.set_cons_succ, List.set_cons_zero])
        ((with_reducible refine wpL_do (v := .pointer (some ⟨sb, 0, none⟩)) ?_ (fun w' hw' => ?_) ?_); (· rfl); (· (go_simp; try rfl)); simp only [Act.put, List.setIfInBounds_toArray, List.set_cons_succ, List.set_cons_zero])
        ((with_reducible refine wpL_do (v := .pointer (some ⟨sb, 0, none⟩)) ?_ (fun w' hw' => ?_) ?_); (· rfl); (· (go_simp; try rfl)); simp only [Act.put, List.setIfInBounds_toArray, List.set_cons_succ, List.set_cons_zero])
        ((with_reducible refine wpL_do (v := .pointer (some ⟨sb, 0, none⟩)) ?_ (fun w' hw' => ?_) ?_); (· rfl); (· (go_simp; try rfl)); simp only [Act.put, List.setIfInBounds_toArray, List.set_cons_succ, List.set_cons_zero])
        ((with_reducible refine wpL_do (v := .pointer (some ⟨sb, 1, none⟩)) ?_ (fun w' hw' => ?_) ?_); (· rfl); (· (go_simp; try rfl)); simp only [Act.put, List.setIfInBounds_toArray, List.set_cons_succ, List.set_cons_zero])
        ((with_reducible refine wpL_do (v := .int .i64 (s.F : Int)) ?_ (fun w' hw' => ?_) ?_); (· rfl); (· (go_simp; try rfl)); simp only [Act.put, List.setIfInBounds_toArray, List.set_cons_succ, List.set_cons_zero])
        clear n0 n1
        (with_reducible refine wpL_call ?_ (fun K hK => ?_)); (· rfl)
        go_wp2_with fail
        refine (HW1.out V2.drew (hS.below ((Below.refl _ V2).drew))).mono ?_
        rintro e V3 ⟨rfl, b3⟩
        have b3' : Below V2.heap.size V2.drew V3 := b3
        (with_reducible refine hK _ _ b3' ?_)
        clear b3'
        clear hK K
        try simp only [Act.put, List.setIfInBounds_toArray, List.set_cons_succ, List.set_cons_zero]
        have b3 : Below V2.heap.size V2 V3 := (Below.refl _ V2).drew.trans b3
        have hS := hS.below b3
        have hg := grownBy_trans hg (grownBy_of_below b3 _)
        clear b3
        by_cases hp1 : r1 ≤ (s.F : Int)
        · rw [if_pos hp1] at HH
          have hd := decide_eq_true hp1
          ((with_reducible refine wpL_do (v := .bool true) ?_ (fun w' hw' => ?_) ?_); (· rfl); (· (go_simp; try rfl)); simp only [Act.put, List.setIfInBounds_toArray, List.set_cons_succ, List.set_cons_zero])
          ((with_reducible refine wpL_do (v := .bool true) ?_ (fun w' hw' => ?_) ?_); (· rfl); (· (go_simp; try rfl)); simp only [Act.put, List.setIfInBounds_toArray, List.set_cons_succ, List.set_cons_zero])
          (with_reducible refine wpL_nil ?_)
          clear hd
          have f7 := hS.at_.frozen 7
          have f8 := hS.at_.frozen 8
          have f11 := hS.at_.frozen 11
          have f9 := hS.at_.frozen 9
          have c7 := hS.at_.ctu
          have c8 := hS.at_.cmi
          have c9 := hS.at_.cst
          have c11 := hS.at_.clo
          dsimp only at c7 c8 c9 c11
          obtain ⟨h7, g7⟩ := hS.put 7 (.bool true) { s with pos := q, tu := true } rfl ⟨rfl, rfl, rfl, rfl, rfl, rfl, rfl, rfl⟩ hS.rmi
          obtain ⟨h8, g8⟩ := h7.put 8 (.int .i64 0) { s with pos := q, tu := true, mi := 0 } rfl ⟨rfl, rfl, rfl, rfl, rfl, rfl, rfl, rfl⟩ (Nat.zero_le _)
          obtain ⟨h11, g11⟩ := h8.put 11 (.bool true) { s with pos := q, tu := true, mi := 0, lo := true } rfl ⟨rfl, rfl, rfl, rfl, rfl, rfl, rfl, rfl⟩ (Nat.zero_le _)
          obtain ⟨h9, g9⟩ := h11.put 9 (.func (.func 24) #[] #[]) { s with pos := q, tu := true, mi := 0, lo := true, st := 24 } rfl ⟨rfl, rfl, rfl, rfl, rfl, rfl, rfl, rfl⟩ (Nat.zero_le _)
          have hg := grownBy_trans hg (grownBy_trans g7 (grownBy_trans g8 (grownBy_trans g11 g9)))
          clear g7 g8 g11 g9 h7 h8 h11 HW0 HW1
          go_wp2_with fail
          go_ret
          exact ⟨q, hq, hno, .inr ⟨true, h32, HH.out, rfl, h9⟩, hg⟩
        · rw [if_neg hp1] at HH
          have hd := decide_eq_false hp1
          ((with_reducible refine wpL_do (v := .bool false) ?_ (fun w' hw' => ?_) ?_); (· rfl); (· (go_simp; try rfl)); simp only [Act.put, List.setIfInBounds_toArray, List.set_cons_succ, List.set_cons_zero])
          ((with_reducible refine wpL_do (v := .bool false) ?_ (fun w' hw' => ?_) ?_); (· rfl); (· (go_simp; try rfl)); simp only [Act.put, List.setIfInBounds_toArray, List.set_cons_succ, List.set_cons_zero])
          (with_reducible refine wpL_nil ?_)
          clear hd
          have c6 := hS.at_.cpos
          have f6 := hS.at_.frozen 6
          dsimp only at c6
          obtain ⟨h6, g6⟩ := hS.put 6 (.int .i64 ((q + 1 : Nat) : Int)) { s with pos := q + 1 } rfl ⟨rfl, rfl, rfl, rfl, rfl, rfl, rfl, rfl⟩ hS.rmi
          have hg := grownBy_trans hg g6
          obtain ⟨V4, hV4⟩ : ∃ V4, V4 = V3.setCell ⟨sb, 6, none⟩ (.int .i64 ((q + 1 : Nat) : Int)) := ⟨_, rfl⟩
          rw [← hV4] at h6 hg
          have e1 : ((q + 1 : Nat) : Int) = (q : Int) + 1 := by omega
          rw [e1] at hV4
          have hV4' := hV4.symm
          clear hV4 e1 g6 HW0 HW1
          go_wp2_with fail
          go_roundw
          case rel => exact ⟨q + 1, by omega, by omega, fun a h1 h2 => by
            by_cases ha : a = q
            · subst ha; exact ⟨h32, HH.out⟩
            · exact hno a h1 (by omega), h6, hg⟩
          case measure =>
            have c7 := h6.at_.cpos
            dsimp only at c7
            simp [intOf, c7, Hc6.out]
            omega
    · rw [decide_eq_false h32]
      go_wp2_with fail
      go_ret
      exact ⟨q, hq, hno, .inl ⟨by omega, rfl, hS⟩, hg⟩
end Go.Proofs.Ytlbpmepifegeiaa
