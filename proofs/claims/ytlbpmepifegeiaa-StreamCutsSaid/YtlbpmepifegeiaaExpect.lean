/- Stream: expect. -/
import Derived.Test.YtlbpmepifegeiaaRead
namespace Go.Proofs.Ytlbpmepifegeiaa
set_option linter.unusedVariables false
set_option linter.unusedSimpArgs false
open Go.RowKit

/-- what a Sync does where a mark is expected -/
def expV (s : SyV) (B : List Nat) : SyV :=
  if wrN (winN B s.pos) s.tu ≤ (s.H : Int) then { s with mi := 0, st := 24 }
  else if wrN (winN B (s.pos - 1)) s.tu ≤ (s.F : Int) then { s with mi := 0, st := 24, pos := s.pos - 1 }
  else if wrN (winN B (s.pos + 1)) s.tu ≤ (s.F : Int) then { s with mi := 0, st := 24, pos := s.pos + 1 }
  else if wrN (winN B s.pos) (!s.tu) ≤ (s.H : Int) then { s with mi := 0, st := 24, tu := !s.tu }
  else if s.M < s.mi + 1 then { s with mi := s.mi + 1, st := 15, lo := false }
  else { s with mi := s.mi + 1, st := 24 }

theorem expV_0 {s : SyV} {B : List Nat} (h0 : wrN (winN B s.pos) s.tu ≤ (s.H : Int)) : expV s B = { s with mi := 0, st := 24 } := by unfold expV; rw [if_pos h0]
theorem expV_1 {s : SyV} {B : List Nat} (h0 : ¬ wrN (winN B s.pos) s.tu ≤ (s.H : Int)) (h1 : wrN (winN B (s.pos - 1)) s.tu ≤ (s.F : Int)) : expV s B = { s with mi := 0, st := 24, pos := s.pos - 1 } := by unfold expV; rw [if_neg h0, if_pos h1]
theorem expV_2 {s : SyV} {B : List Nat} (h0 : ¬ wrN (winN B s.pos) s.tu ≤ (s.H : Int)) (h1 : ¬ wrN (winN B (s.pos - 1)) s.tu ≤ (s.F : Int)) (h2 : wrN (winN B (s.pos + 1)) s.tu ≤ (s.F : Int)) : expV s B = { s with mi := 0, st := 24, pos := s.pos + 1 } := by unfold expV; rw [if_neg h0, if_neg h1, if_pos h2]
theorem expV_3 {s : SyV} {B : List Nat} (h0 : ¬ wrN (winN B s.pos) s.tu ≤ (s.H : Int)) (h1 : ¬ wrN (winN B (s.pos - 1)) s.tu ≤ (s.F : Int)) (h2 : ¬ wrN (winN B (s.pos + 1)) s.tu ≤ (s.F : Int)) (h3 : wrN (winN B s.pos) (!s.tu) ≤ (s.H : Int)) : expV s B = { s with mi := 0, st := 24, tu := !s.tu } := by unfold expV; rw [if_neg h0, if_neg h1, if_neg h2, if_pos h3]
theorem expV_4 {s : SyV} {B : List Nat} (h0 : ¬ wrN (winN B s.pos) s.tu ≤ (s.H : Int)) (h1 : ¬ wrN (winN B (s.pos - 1)) s.tu ≤ (s.F : Int)) (h2 : ¬ wrN (winN B (s.pos + 1)) s.tu ≤ (s.F : Int)) (h3 : ¬ wrN (winN B s.pos) (!s.tu) ≤ (s.H : Int)) (h4 : s.M < s.mi + 1) : expV s B = { s with mi := s.mi + 1, st := 15, lo := false } := by unfold expV; rw [if_neg h0, if_neg h1, if_neg h2, if_neg h3, if_pos h4]
theorem expV_5 {s : SyV} {B : List Nat} (h0 : ¬ wrN (winN B s.pos) s.tu ≤ (s.H : Int)) (h1 : ¬ wrN (winN B (s.pos - 1)) s.tu ≤ (s.F : Int)) (h2 : ¬ wrN (winN B (s.pos + 1)) s.tu ≤ (s.F : Int)) (h3 : ¬ wrN (winN B s.pos) (!s.tu) ≤ (s.H : Int)) (h4 : ¬ s.M < s.mi + 1) : expV s B = { s with mi := s.mi + 1, st := 24 } := by unfold expV; rw [if_neg h0, if_neg h1, if_neg h2, if_neg h3, if_neg h4]
/-- how expect ends -/
def ExpE (sb : Nat) (s : SyV) (B : List Nat) (W : World) (e : Ending) (w' : World) : Prop :=
  if ¬ wrN (winN B s.pos) s.tu ≤ (s.H : Int) ∧ B.length < s.pos + 33 then e = .returned (.bool false) ∧ Below W.heap.size W w'
  else e = .returned (.bool true) ∧ SyIn w' sb (expV s B) B ∧ W.grownBy w' (some sb)
theorem ExpE.yes {sb : Nat} {s : SyV} {B : List Nat} {W w' : World} {s' : SyV} (h : wrN (winN B s.pos) s.tu ≤ (s.H : Int) ∨ s.pos + 33 ≤ B.length) (he : expV s B = s') (hS : SyIn w' sb s' B) (hg : W.grownBy w' (some sb)) : ExpE sb s B W (.returned (.bool true)) w' := by
  unfold ExpE
  rw [if_neg (fun hh => by
    rcases h with h | h
    · exact hh.1 h
    · exact absurd hh.2 (by omega)), he]
  exact ⟨rfl, hS, hg⟩
theorem ExpE.no {sb : Nat} {s : SyV} {B : List Nat} {W w' : World} (h : ¬ wrN (winN B s.pos) s.tu ≤ (s.H : Int)) (h33 : B.length < s.pos + 33) (hb : Below W.heap.size W w') : ExpE sb s B W (.returned (.bool false)) w' := by
  unfold ExpE
  rw [if_pos ⟨h, h33⟩]
  exact ⟨rfl, hb⟩
theorem exp_no (sb : Nat) (s : SyV) (B : List Nat) (W : World) (h : SyIn W sb s B) (hp : B.length < s.pos + 32) (hpl : s.pos ≤ B.length + 100) :
    Calls Try.prog 29 #[.pointer (some ⟨sb, 0, none⟩)] W fun e w' => e = .returned (.bool false) ∧ Below W.heap.size W w' := by
  have c6 := h.at_.cpos
  have hbig := h.big
  have hd : decide (s.pos + 32 ≤ B.length) = false := by simp; omega
  go_enter Try.func29, Try.ntmps29
  go_wp2_with fail
  refine (has_in h s.pos 32 (by omega) (by decide)).mono ?_
  rintro e V ⟨rfl, bV⟩
  rw [hd]
  go_wp2_with fail
  go_ret
  exact ⟨rfl, bV⟩

set_option maxRecDepth 100000 in
set_option maxHeartbeats 8000000 in
theorem exp_some (sb : Nat) (s : SyV) (B : List Nat) (W : World) (h : SyIn W sb s B) (hp : s.base + 1 ≤ s.pos) (hp32 : s.pos + 32 ≤ B.length) (hmi : s.mi ≤ 1000) :
    Calls Try.prog 29 #[.pointer (some ⟨sb, 0, none⟩)] W (ExpE sb s B W) := by
  have c6 := h.at_.cpos
  have hbig := h.big
  have hd : decide (s.pos + 32 ≤ B.length) = true := by simp; omega
  have r0 := wrN_rng (winN B s.pos) s.tu (winN_lt h.one _)
  have r1 := wrN_rng (winN B (s.pos - 1)) s.tu (winN_lt h.one _)
  have r2 := wrN_rng (winN B (s.pos + 1)) s.tu (winN_lt h.one _)
  have r3 := wrN_rng (winN B s.pos) (!s.tu) (winN_lt h.one _)
  have X0 := hid (fun (u : World) (s' : SyV) (hu : SyIn u sb s' B) (hb : s'.base = s.base) => wrong_in hu s.pos s.tu ⟨by omega, hp32⟩)
  have X1 := hid (fun (u : World) (s' : SyV) (hu : SyIn u sb s' B) (hb : s'.base = s.base) => wrong_in hu (s.pos - 1) s.tu ⟨by omega, by omega⟩)
  have X2 := hid (fun (h33 : s.pos + 33 ≤ B.length) (u : World) (s' : SyV) (hu : SyIn u sb s' B) (hb : s'.base = s.base) => wrong_in hu (s.pos + 1) s.tu ⟨by omega, by omega⟩)
  have X3 := hid (fun (u : World) (s' : SyV) (hu : SyIn u sb s' B) (hb : s'.base = s.base) => wrong_in hu s.pos (!s.tu) ⟨by omega, hp32⟩)
  obtain ⟨z0, hz0⟩ : ∃ z, z = wrN (winN B s.pos) s.tu := ⟨_, rfl⟩
  obtain ⟨z1, hz1⟩ : ∃ z, z = wrN (winN B (s.pos - 1)) s.tu := ⟨_, rfl⟩
  obtain ⟨z2, hz2⟩ : ∃ z, z = wrN (winN B (s.pos + 1)) s.tu := ⟨_, rfl⟩
  obtain ⟨z3, hz3⟩ : ∃ z, z = wrN (winN B s.pos) (!s.tu) := ⟨_, rfl⟩
  rw [← hz0] at r0 X0
  rw [← hz1] at r1 X1
  rw [← hz2] at r2 X2
  rw [← hz3] at r3 X3
  have Z0 := hid hz0
  have Z1 := hid hz1
  have Z2 := hid hz2
  have Z3 := hid hz3
  clear hz0 hz1 hz2 hz3
  go_enter Try.func29, Try.ntmps29
  go_wp2_with fail
  refine (has_in h s.pos 32 (by omega) (by decide)).mono ?_
  rintro e V ⟨rfl, bV⟩
  rw [hd]
  have hS := h.below bV
  have bVk := hid bV
  have hg : W.grownBy V (some sb) := grownBy_of_below bV _
  clear bV hd c6
  go_upto_region 3 with fail
  have n6 : ∀ w', Below V.heap.size V.drew w' → w'.cell? ⟨sb, 6, none⟩ = some (.int .i64 (s.pos : Int)) := fun w' hw => ((hS.below ((Below.refl _ V).drew)).below hw).at_.cpos
  have n7 : ∀ w', Below V.heap.size V.drew w' → w'.cell? ⟨sb, 7, none⟩ = some (.bool s.tu) := fun w' hw => ((hS.below ((Below.refl _ V).drew)).below hw).at_.ctu
  have nL : ∀ w', Below V.heap.size V.drew w' → w'.cell? ⟨sb, 2, none⟩ = some (.int .i64 (s.H : Int)) := fun w' hw => ((hS.below ((Below.refl _ V).drew)).below hw).at_.cH
  refine wp_region_can_all [9] [0, 1, 2, 3, 4, 5, 6, 7, 8, 10, 11, 12, 13, 14, 9, 15, 16] (Below V.heap.size) (fun _ => Below.refl _ _) (fun _ _ _ h k => h.trans k) (by kernel_rfl) (by kernel_rfl) ?_
  simp only [List.map_cons, List.map_nil, List.contains_cons, List.contains_nil, List.getD_cons_zero, List.getD_cons_succ, Nat.reduceBEq, Bool.or_false, Bool.or_true]
  repeat (refine wpL_do rfl (fun w' hw' => (by go_simp; rfl)) ?_; simp only [Act.put, List.setIfInBounds_toArray, List.set_cons_succ, List.set_cons_zero])
  clear n6 n7 nL
  refine wpL_call rfl (fun K hK => ?_)
  go_wp2_with fail
  refine ((fun u hu => X0.out u s hu rfl) V.drew (hS.below ((Below.refl _ V).drew))).mono ?_
  rintro e V2 ⟨rfl, b2⟩
  have b2' : Below V.heap.size V.drew V2 := b2
  refine hK _ _ b2' ?_
  clear hK K b2'
  try simp only [Act.put, List.setIfInBounds_toArray, List.set_cons_succ, List.set_cons_zero]
  have b2 : Below V.heap.size V V2 := (Below.refl _ V).drew.trans b2
  have hS := hS.below b2
  have hg := grownBy_trans hg (grownBy_of_below b2 _)
  have HbAll := hid ((bVk.out).trans (b2.mono bVk.out.size))
  clear b2
  repeat (refine wpL_do rfl (fun w' hw' => (by go_simp; rfl)) ?_; simp only [Act.put, List.setIfInBounds_toArray, List.set_cons_succ, List.set_cons_zero])
  refine wpL_nil ?_
  go_upto_region 4 with fail
  by_cases h0 : z0 ≤ (s.H : Int)
  · rw [decide_eq_true h0]
    have c8 := hS.at_.cmi
    have f8 := hS.at_.frozen 8
    have c9 := hS.at_.cst
    have f9 := hS.at_.frozen 9
    obtain ⟨h8, g8⟩ := hS.put 8 (.int .i64 0) { s with mi := 0 } rfl ⟨rfl, rfl, rfl, rfl, rfl, rfl, rfl, rfl⟩ (Nat.zero_le _)
    obtain ⟨h9, g9⟩ := h8.put 9 (.func (.func 24) #[] #[]) { s with mi := 0, st := 24 } rfl ⟨rfl, rfl, rfl, rfl, rfl, rfl, rfl, rfl⟩ (Nat.zero_le _)
    have hg := grownBy_trans hg (grownBy_trans g8 g9)
    obtain ⟨V5, hV5⟩ : ∃ V5, V5 = (V2.setCell ⟨sb, 8, none⟩ (.int .i64 0)).setCell ⟨sb, 9, none⟩ (.func (.func 24) #[] #[]) := ⟨_, rfl⟩
    rw [← hV5] at h9 hg
    have hV5' := hV5.symm
    clear hV5 g8 g9 h8
    go_wp2_with fail
    go_ret
    exact ExpE.yes (.inl (Z0.out ▸ h0)) (expV_0 (Z0.out ▸ h0)) h9 hg
  · rw [decide_eq_false h0]
    have N0 : Hid (¬ wrN (winN B s.pos) s.tu ≤ (s.H : Int)) := Z0.out ▸ h0
    have c6 := hS.at_.cpos
    have bAll := HbAll.out
    go_wp2_with fail
    refine (has_in hS s.pos 33 (by omega) (by decide)).mono ?_
    rintro e V4 ⟨rfl, b4⟩
    have hS := hS.below b4
    have hg := grownBy_trans hg (grownBy_of_below b4 _)
    by_cases h33 : s.pos + 33 ≤ B.length
    · rw [decide_eq_true h33]
      clear b4 c6
      have c8 := hS.at_.cmi
      have f8 := hS.at_.frozen 8
      have c9 := hS.at_.cst
      have f9 := hS.at_.frozen 9
      obtain ⟨h8, g8⟩ := hS.put 8 (.int .i64 0) { s with mi := 0 } rfl ⟨rfl, rfl, rfl, rfl, rfl, rfl, rfl, rfl⟩ (Nat.zero_le _)
      obtain ⟨h9, g9⟩ := h8.put 9 (.func (.func 24) #[] #[]) { s with mi := 0, st := 24 } rfl ⟨rfl, rfl, rfl, rfl, rfl, rfl, rfl, rfl⟩ (Nat.zero_le _)
      have hg := grownBy_trans hg (grownBy_trans g8 g9)
      obtain ⟨V5, hV5⟩ : ∃ V5, V5 = (V4.setCell ⟨sb, 8, none⟩ (.int .i64 0)).setCell ⟨sb, 9, none⟩ (.func (.func 24) #[] #[]) := ⟨_, rfl⟩
      rw [← hV5] at h9 hg
      have hV5' := hV5.symm
      clear hV5 g8 g9 h8
      go_upto_region 12 with fail
      clear hV5' c8 f8 c9 f9
      have hS := h9
      clear h9
      have m1 : (s.pos : Int) - 1 = ((s.pos - 1 : Nat) : Int) := by omega
      have m2 : IntKind.i64.wrap ((s.pos - 1 : Nat) : Int) = ((s.pos - 1 : Nat) : Int) := IntWalk.i64_in _ (by omega)
      have m3 : (s.pos : Int) + 1 = ((s.pos + 1 : Nat) : Int) := by omega
      have m4 : IntKind.i64.wrap ((s.pos + 1 : Nat) : Int) = ((s.pos + 1 : Nat) : Int) := IntWalk.i64_in _ (by omega)
      have M1 := hid m1
      have M3 := hid m3
      obtain ⟨pm, hpm⟩ : ∃ p, p = s.pos - 1 := ⟨_, rfl⟩
      obtain ⟨pp, hpp⟩ : ∃ p, p = s.pos + 1 := ⟨_, rfl⟩
      rw [← hpm] at m1 m2 X1
      rw [← hpp] at m3 m4 X2
      have Hpm := hid hpm
      have Hpp := hid hpp
      clear hpm hpp m3
      have n6 : ∀ w', Below V5.heap.size V5.drew w' → w'.cell? ⟨sb, 6, none⟩ = some (.int .i64 (s.pos : Int)) := fun w' hw => ((hS.below ((Below.refl _ V5).drew)).below hw).at_.cpos
      have n7 : ∀ w', Below V5.heap.size V5.drew w' → w'.cell? ⟨sb, 7, none⟩ = some (.bool s.tu) := fun w' hw => ((hS.below ((Below.refl _ V5).drew)).below hw).at_.ctu
      have nL : ∀ w', Below V5.heap.size V5.drew w' → w'.cell? ⟨sb, 1, none⟩ = some (.int .i64 (s.F : Int)) := fun w' hw => ((hS.below ((Below.refl _ V5).drew)).below hw).at_.cF
      refine wp_region_can_all [10] [0, 1, 2, 3, 4, 5, 6, 7, 8, 9, 11, 12, 13, 14, 15, 10, 16, 17] (Below V5.heap.size) (fun _ => Below.refl _ _) (fun _ _ _ h k => h.trans k) (by kernel_rfl) (by kernel_rfl) ?_
      simp only [List.map_cons, List.map_nil, List.contains_cons, List.contains_nil, List.getD_cons_zero, List.getD_cons_succ, Nat.reduceBEq, Bool.or_false, Bool.or_true]
      repeat (refine wpL_do rfl (fun w' hw' => (by go_simp; rfl)) ?_; simp only [Act.put, List.setIfInBounds_toArray, List.set_cons_succ, List.set_cons_zero])
      clear n6 n7 nL
      refine wpL_call rfl (fun K hK => ?_)
      go_wp2_with fail
      refine ((fun u (hu : SyIn u sb { s with mi := 0, st := 24 } B) => X1.out u _ hu rfl) V5.drew (hS.below ((Below.refl _ V5).drew))).mono ?_
      rintro e V6 ⟨rfl, b2⟩
      have b2' : Below V5.heap.size V5.drew V6 := b2
      refine hK _ _ b2' ?_
      clear hK K b2'
      try simp only [Act.put, List.setIfInBounds_toArray, List.set_cons_succ, List.set_cons_zero]
      have b2 : Below V5.heap.size V5 V6 := (Below.refl _ V5).drew.trans b2
      have hS := hS.below b2
      have hg := grownBy_trans hg (grownBy_of_below b2 _)
      
      clear b2
      repeat (refine wpL_do rfl (fun w' hw' => (by go_simp; rfl)) ?_; simp only [Act.put, List.setIfInBounds_toArray, List.set_cons_succ, List.set_cons_zero])
      refine wpL_nil ?_
      by_cases h1 : z1 ≤ (s.F : Int)
      · rw [decide_eq_true h1]
        have Y1 : Hid (wrN (winN B (s.pos - 1)) s.tu ≤ (s.F : Int)) := Z1.out ▸ h1
        have c6 := hS.at_.cpos
        dsimp only at c6
        have f6 := hS.at_.frozen 6
        obtain ⟨h6, g6⟩ := hS.put 6 (.int .i64 (pm : Int)) { s with mi := 0, st := 24, pos := pm } rfl ⟨rfl, rfl, rfl, rfl, rfl, rfl, rfl, rfl⟩ hS.rmi
        have hg := grownBy_trans hg g6
        clear g6
        go_wp2_with fail
        go_ret
        exact ExpE.yes (.inr h33) (by rw [expV_1 (by have := N0.out; omega) Y1.out, ← Hpm.out]) h6 hg
      · rw [decide_eq_false h1]
        have N1 : Hid (¬ wrN (winN B (s.pos - 1)) s.tu ≤ (s.F : Int)) := Z1.out ▸ h1
        have m5 : (s.pos : Int) + 1 = (pp : Int) := by have := Hpp.out; omega
        clear m1
        go_upto_region 14 with fail
        have n6 : ∀ w', Below V6.heap.size V6.drew w' → w'.cell? ⟨sb, 6, none⟩ = some (.int .i64 (s.pos : Int)) := fun w' hw => ((hS.below ((Below.refl _ V6).drew)).below hw).at_.cpos
        have n7 : ∀ w', Below V6.heap.size V6.drew w' → w'.cell? ⟨sb, 7, none⟩ = some (.bool s.tu) := fun w' hw => ((hS.below ((Below.refl _ V6).drew)).below hw).at_.ctu
        have nL : ∀ w', Below V6.heap.size V6.drew w' → w'.cell? ⟨sb, 1, none⟩ = some (.int .i64 (s.F : Int)) := fun w' hw => ((hS.below ((Below.refl _ V6).drew)).below hw).at_.cF
        refine wp_region_can_all [10] [0, 1, 2, 3, 4, 5, 6, 7, 8, 9, 11, 12, 13, 14, 15, 10, 16, 17] (Below V6.heap.size) (fun _ => Below.refl _ _) (fun _ _ _ h k => h.trans k) (by kernel_rfl) (by kernel_rfl) ?_
        simp only [List.map_cons, List.map_nil, List.contains_cons, List.contains_nil, List.getD_cons_zero, List.getD_cons_succ, Nat.reduceBEq, Bool.or_false, Bool.or_true]
        repeat (refine wpL_do rfl (fun w' hw' => (by go_simp; rfl)) ?_; simp only [Act.put, List.setIfInBounds_toArray, List.set_cons_succ, List.set_cons_zero])
        clear n6 n7 nL
        refine wpL_call rfl (fun K hK => ?_)
        go_wp2_with fail
        refine ((fun u (hu : SyIn u sb { s with mi := 0, st := 24 } B) => X2.out h33 u _ hu rfl) V6.drew (hS.below ((Below.refl _ V6).drew))).mono ?_
        rintro e V7 ⟨rfl, b2⟩
        have b2' : Below V6.heap.size V6.drew V7 := b2
        refine hK _ _ b2' ?_
        clear hK K b2'
        try simp only [Act.put, List.setIfInBounds_toArray, List.set_cons_succ, List.set_cons_zero]
        have b2 : Below V6.heap.size V6 V7 := (Below.refl _ V6).drew.trans b2
        have hS := hS.below b2
        have hg := grownBy_trans hg (grownBy_of_below b2 _)
        
        clear b2
        repeat (refine wpL_do rfl (fun w' hw' => (by go_simp; rfl)) ?_; simp only [Act.put, List.setIfInBounds_toArray, List.set_cons_succ, List.set_cons_zero])
        refine wpL_nil ?_
        by_cases h2 : z2 ≤ (s.F : Int)
        · rw [decide_eq_true h2]
          have Y2 : Hid (wrN (winN B (s.pos + 1)) s.tu ≤ (s.F : Int)) := Z2.out ▸ h2
          have c6 := hS.at_.cpos
          dsimp only at c6
          have f6 := hS.at_.frozen 6
          obtain ⟨h6, g6⟩ := hS.put 6 (.int .i64 (pp : Int)) { s with mi := 0, st := 24, pos := pp } rfl ⟨rfl, rfl, rfl, rfl, rfl, rfl, rfl, rfl⟩ hS.rmi
          have hg := grownBy_trans hg g6
          clear g6
          go_wp2_with fail
          go_ret
          exact ExpE.yes (.inr h33) (by rw [expV_2 (by have := N0.out; omega) (by have := N1.out; omega) Y2.out, ← Hpp.out]) h6 hg
        · rw [decide_eq_false h2]
          have N2 : Hid (¬ wrN (winN B (s.pos + 1)) s.tu ≤ (s.F : Int)) := Z2.out ▸ h2
          go_upto_region 16 with fail
          have n6 : ∀ w', Below V7.heap.size V7.drew w' → w'.cell? ⟨sb, 6, none⟩ = some (.int .i64 (s.pos : Int)) := fun w' hw => ((hS.below ((Below.refl _ V7).drew)).below hw).at_.cpos
          have n7 : ∀ w', Below V7.heap.size V7.drew w' → w'.cell? ⟨sb, 7, none⟩ = some (.bool s.tu) := fun w' hw => ((hS.below ((Below.refl _ V7).drew)).below hw).at_.ctu
          have nL : ∀ w', Below V7.heap.size V7.drew w' → w'.cell? ⟨sb, 2, none⟩ = some (.int .i64 (s.H : Int)) := fun w' hw => ((hS.below ((Below.refl _ V7).drew)).below hw).at_.cH
          refine wp_region_can_all [10] [0, 1, 2, 3, 4, 5, 6, 7, 8, 9, 11, 12, 13, 14, 15, 10, 16, 17] (Below V7.heap.size) (fun _ => Below.refl _ _) (fun _ _ _ h k => h.trans k) (by kernel_rfl) (by kernel_rfl) ?_
          simp only [List.map_cons, List.map_nil, List.contains_cons, List.contains_nil, List.getD_cons_zero, List.getD_cons_succ, Nat.reduceBEq, Bool.or_false, Bool.or_true]
          repeat (refine wpL_do rfl (fun w' hw' => (by go_simp; rfl)) ?_; simp only [Act.put, List.setIfInBounds_toArray, List.set_cons_succ, List.set_cons_zero])
          clear n6 n7 nL
          refine wpL_call rfl (fun K hK => ?_)
          go_wp2_with fail
          refine ((fun u (hu : SyIn u sb { s with mi := 0, st := 24 } B) => X3.out u _ hu rfl) V7.drew (hS.below ((Below.refl _ V7).drew))).mono ?_
          rintro e V8 ⟨rfl, b2⟩
          have b2' : Below V7.heap.size V7.drew V8 := b2
          refine hK _ _ b2' ?_
          clear hK K b2'
          try simp only [Act.put, List.setIfInBounds_toArray, List.set_cons_succ, List.set_cons_zero]
          have b2 : Below V7.heap.size V7 V8 := (Below.refl _ V7).drew.trans b2
          have hS := hS.below b2
          have hg := grownBy_trans hg (grownBy_of_below b2 _)
          
          clear b2
          repeat (refine wpL_do rfl (fun w' hw' => (by go_simp; rfl)) ?_; simp only [Act.put, List.setIfInBounds_toArray, List.set_cons_succ, List.set_cons_zero])
          refine wpL_nil ?_
          by_cases h3 : z3 ≤ (s.H : Int)
          · rw [decide_eq_true h3]
            have Y3 : Hid (wrN (winN B s.pos) (!s.tu) ≤ (s.H : Int)) := Z3.out ▸ h3
            have c6 := hS.at_.ctu
            dsimp only at c6
            have f6 := hS.at_.frozen 7
            obtain ⟨h6, g6⟩ := hS.put 7 (.bool (!s.tu)) { s with mi := 0, st := 24, tu := !s.tu } rfl ⟨rfl, rfl, rfl, rfl, rfl, rfl, rfl, rfl⟩ hS.rmi
            have hg := grownBy_trans hg g6
            clear g6
            go_wp2_with fail
            go_ret
            exact ExpE.yes (.inr h33) (expV_3 (by have := N0.out; omega) (by have := N1.out; omega) (by have := N2.out; omega) Y3.out) h6 hg
          · rw [decide_eq_false h3]
            have N3 : Hid (¬ wrN (winN B s.pos) (!s.tu) ≤ (s.H : Int)) := Z3.out ▸ h3
            have c8 := hS.at_.cmi
            dsimp only at c8
            have f8 := hS.at_.frozen 8
            obtain ⟨h8, g8⟩ := hS.put 8 (.int .i64 ((s.mi + 1 : Nat) : Int)) { s with mi := s.mi + 1, st := 24 } rfl ⟨rfl, rfl, rfl, rfl, rfl, rfl, rfl, rfl⟩ (by show s.mi + 1 ≤ _; omega)
            have hg := grownBy_trans hg g8
            have u1 : (s.mi : Int) + 1 = ((s.mi + 1 : Nat) : Int) := by omega
            have u2 : IntKind.i64.wrap ((s.mi + 1 : Nat) : Int) = ((s.mi + 1 : Nat) : Int) := IntWalk.i64_in _ (by omega)
            obtain ⟨m8, hm8⟩ : ∃ m, m = s.mi + 1 := ⟨_, rfl⟩
            have H8 := hid hm8
            rw [← hm8] at u1 u2 h8 hg
            obtain ⟨V9, hV9⟩ : ∃ V9, V9 = V8.setCell ⟨sb, 8, none⟩ (.int .i64 (m8 : Int)) := ⟨_, rfl⟩
            rw [← hV9] at h8 hg
            have hV9' := hV9.symm
            clear hV9 g8 hm8
            go_upto_region 9 with fail
            clear hV9' c8 f8 u1 u2
            have hS := h8
            clear h8
            have n8 : ∀ w', Below V9.heap.size V9.drew w' → w'.cell? ⟨sb, 8, none⟩ = some (.int .i64 (m8 : Int)) := fun w' hw => ((hS.below ((Below.refl _ V9).drew)).below hw).at_.cmi
            have nM : ∀ w', Below V9.heap.size V9.drew w' → w'.cell? ⟨sb, 3, none⟩ = some (.int .i64 (s.M : Int)) := fun w' hw => ((hS.below ((Below.refl _ V9).drew)).below hw).at_.cM
            refine wp_region_can_all [] [0, 1, 2, 3, 4, 5, 6, 7, 8, 9] (Below V9.heap.size) (fun _ => Below.refl _ _) (fun _ _ _ h k => h.trans k) (by kernel_rfl) (by kernel_rfl) ?_
            simp only [List.map_cons, List.map_nil, List.contains_cons, List.contains_nil, List.getD_cons_zero, List.getD_cons_succ, Nat.reduceBEq, Bool.or_false, Bool.or_true]
            repeat (refine wpL_do rfl (fun w' hw' => (by go_simp; rfl)) ?_; simp only [Act.put, List.setIfInBounds_toArray, List.set_cons_succ, List.set_cons_zero])
            clear n8 nM
            refine wpL_nil ?_
            have hS := hS.below ((Below.refl _ V9).drew)
            have hg := grownBy_trans hg (grownBy_drew V9 _)
            generalize V9.drew = V10 at *
            by_cases h4 : s.M < m8
            · rw [decide_eq_true h4]
              have Y4 : Hid (s.M < s.mi + 1) := by show s.M < _; have := H8.out; omega
              have c11 := hS.at_.clo
              have f11 := hS.at_.frozen 11
              have c9 := hS.at_.cst
              have f9 := hS.at_.frozen 9
              dsimp only at c11 c9
              obtain ⟨h11, g11⟩ := hS.put 11 (.bool false) { s with mi := m8, st := 24, lo := false } rfl ⟨rfl, rfl, rfl, rfl, rfl, rfl, rfl, rfl⟩ hS.rmi
              obtain ⟨h9, g9⟩ := h11.put 9 (.func (.func 15) #[] #[]) { s with mi := m8, st := 15, lo := false } rfl ⟨rfl, rfl, rfl, rfl, rfl, rfl, rfl, rfl⟩ hS.rmi
              have hg := grownBy_trans hg (grownBy_trans g11 g9)
              clear g11 g9 h11
              go_wp2_with fail
              go_ret
              exact ExpE.yes (.inr h33) (by rw [expV_4 (by have := N0.out; omega) (by have := N1.out; omega) (by have := N2.out; omega) (by have := N3.out; omega) Y4.out, ← H8.out]) h9 hg
            · rw [decide_eq_false h4]
              have Y4 : Hid (¬ s.M < s.mi + 1) := by show ¬ s.M < _; have := H8.out; omega
              go_wp2_with fail
              go_ret
              exact ExpE.yes (.inr h33) (by rw [expV_5 (by have := N0.out; omega) (by have := N1.out; omega) (by have := N2.out; omega) (by have := N3.out; omega) (by have := Y4.out; omega), ← H8.out]) hS hg
    · rw [decide_eq_false h33]
      go_wp2_with fail
      go_ret
      exact ExpE.no (by have := N0.out; omega) (by omega) (bAll.trans (b4.mono bAll.size))
end Go.Proofs.Ytlbpmepifegeiaa
