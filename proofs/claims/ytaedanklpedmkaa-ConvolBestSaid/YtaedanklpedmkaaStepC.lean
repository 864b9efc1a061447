/- step: one bit more (does not build yet: begun). -/
import Derived.Test.YtaedanklpedmkaaIxC
import Derived.Test.YtaedanklpedmkaaSetCells
import Derived.Test.YtaedanklpedmkaaIterC
import Derived.Test.YtaedanklpedmkaaAppend
import Derived.Test.YtaedanklpedmkaaFromC
import Derived.Deep.DeepCutAuto
namespace Go.Proofs.Ytaedanklpedmkaa
set_option linter.unusedVariables false
open Go.RowKit

/-- is the state ahead the upper one? -/
def hiK (pay : Nat → Nat → Nat) (cost order : List Nat) (s : Nat) : Bool :=
  decide (nth cost (s / 2 + 32) + pay (s % 2) (s / 2 + 32) < nth cost (s / 2) + pay (s % 2) (s / 2)) || (decide (nth cost (s / 2 + 32) + pay (s % 2) (s / 2 + 32) = nth cost (s / 2) + pay (s % 2) (s / 2)) && decide (nth order (s / 2 + 32) < nth order (s / 2)))
def newC (pay : Nat → Nat → Nat) (no : Bool) (cost order : List Nat) (s : Nat) : Nat :=
  if s % 2 = 1 ∧ no = true then far else if hiK pay cost order s = true then nth cost (s / 2 + 32) + pay (s % 2) (s / 2 + 32) else nth cost (s / 2) + pay (s % 2) (s / 2)
def newO (pay : Nat → Nat → Nat) (cost order : List Nat) (s : Nat) : Nat := 2 * (if hiK pay cost order s = true then nth order (s / 2 + 32) else nth order (s / 2)) + s % 2
/-- the first k are told, the others are nought -/
def til (f : Nat → Nat) (k s : Nat) : Nat := if s < k then f s else 0
theorem til_set (f : Nat → Nat) (k : Nat) (h : k < 64) : (lst (til f k)).set k (f k) = lst (til f (k + 1)) := by
  rw [lst_set _ _ _ h]
  refine lst_congr fun i hi => ?_
  unfold til
  by_cases e : i = k
  · subst e; rw [if_pos rfl, if_pos (by omega)]
  · rw [if_neg e]
    by_cases e2 : i < k
    · rw [if_pos e2, if_pos (by omega)]
    · rw [if_neg e2, if_neg (by omega)]
theorem til_all (f : Nat → Nat) : lst (til f 64) = lst f := lst_congr fun s hs => if_pos hs
theorem and_one : ∀ k : Nat, k < 64 → bits .and .i64 (k : Int) 1 = ((k % 2 : Nat) : Int) := by decide +kernel
theorem shl_wrap : ∀ k : Nat, k < 64 → IntKind.u64.wrap ((2 : Int) ^ k) = ((2 ^ k : Nat) : Int) := by decide +kernel
theorem or_hi : ∀ k : Nat, k < 64 → bits .or .i64 ((k / 2 : Nat) : Int) 32 = ((k / 2 + 32 : Nat) : Int) := by decide +kernel

theorem hi_lt (f : Nat → Nat) (k : Nat) : til f 0 k = 0 := if_neg (by omega)
/-- what lies below B stays, but for the block T -/
structure KeptB (B T : Nat) (W W' : World) : Prop where
  os : W'.os = W.os
  tape : W'.tape = W.tape
  output : W'.output = W.output
  size : W.heap.size ≤ W'.heap.size
  block : ∀ k, k < B → k ≠ T → W'.heap[k]? = W.heap[k]?
theorem KeptB.refl (B T : Nat) (W : World) : KeptB B T W W := ⟨rfl, rfl, rfl, Nat.le_refl _, fun _ _ _ => rfl⟩
theorem KeptB.trans {B T : Nat} {W W' W'' : World} (h : KeptB B T W W') (k : KeptB B T W' W'') : KeptB B T W W'' :=
  ⟨k.os.trans h.os, k.tape.trans h.tape, k.output.trans h.output, Nat.le_trans h.size k.size, fun i hi hne => (k.block i hi hne).trans (h.block i hi hne)⟩
theorem KeptB.grown {B T : Nat} {W W' : World} {g : Option Nat} (h : W.grownBy W' g) (hB : B ≤ W.heap.size) (hg : ∀ k, g = some k → B ≤ k ∨ k = T) : KeptB B T W W' :=
  ⟨h.os, h.tape, h.output, h.size, fun k hk hne => h.block k (by omega) (fun e => by have := hg k e.symm; omega)⟩
theorem KeptB.below {B T : Nat} {W W' : World} (h : Below W.heap.size W W') (hB : B ≤ W.heap.size) : KeptB B T W W' :=
  ⟨h.os, h.tape, h.output, h.size, fun k hk _ => h.block k (by omega)⟩
theorem KeptB.drew {B T : Nat} (W : World) : KeptB B T W W.drew := ⟨rfl, rfl, rfl, Nat.le_refl _, fun _ _ _ => rfl⟩
theorem newO_inj {pay : Nat → Nat → Nat} {cost order : List Nat} (h : ∀ a b, a < 64 → b < 64 → nth order a = nth order b → a = b) (a b : Nat) (ha : a < 64) (hb : b < 64) (e : newO pay cost order a = newO pay cost order b) : a = b := by
  unfold newO at e
  have h1 := h (a / 2) (b / 2) (by omega) (by omega)
  have h2 := h (a / 2) (b / 2 + 32) (by omega) (by omega)
  have h3 := h (a / 2 + 32) (b / 2) (by omega) (by omega)
  have h4 := h (a / 2 + 32) (b / 2 + 32) (by omega) (by omega)
  split at e <;> split at e <;> omega
theorem newO_lt {pay : Nat → Nat → Nat} {cost order : List Nat} (h : ∀ i, nth order i ≤ 63) (a : Nat) : newO pay cost order a < 128 := by
  have h1 := h (a / 2)
  have h2 := h (a / 2 + 32)
  unfold newO
  split <;> omega
theorem vi_oneCell (l : List Nat) : ∀ u ∈ vi l, u.oneCell' = true := by
  intro u hu
  obtain ⟨_, _, rfl⟩ := List.mem_map.1 hu
  rfl
theorem rd_lit60 (W : World) (x : Nat) : Rd (W.alloc (.cells #[.int .u64 (x : Int)] 60)) (some ⟨W.heap.size, 0, none⟩) 1 1 (vu [x]) := by
  have h := World.ownsRow_lit (base := W.heap.size) (e := 60) (size := 1) W #[.int .u64 (x : Int)] 1 (Nat.le_refl _) (by decide) rfl
  exact Rd.ofOwn h
theorem vu_oneCell (l : List Nat) : ∀ u ∈ vu l, u.oneCell' = true := by
  intro u hu
  obtain ⟨_, _, rfl⟩ := List.mem_map.1 hu
  rfl

set_option maxRecDepth 100000 in
set_option maxHeartbeats 8000000 in
theorem step_ok (T G H B : Nat) (no : Bool) (cost order fl : List Nat) (fa : Option Addr) (fc : Nat) (pay : Nat → Nat → Nat) (w : World) (hT : w.heap[T]? = some (.cells (tc cost order (.slice fa fl.length fc)).toArray 53)) (hcl : cost.length = 64) (hol : order.length = 64)
    (hcb : ∀ i, nth cost i ≤ 1125899906842624) (hob : ∀ i, nth order i ≤ 63) (hoi : ∀ a b, a < 64 → b < 64 → nth order a = nth order b → a = b) (hpb : ∀ b s, pay b s ≤ 200)
    (hfl : fl.length ≤ 100000) (hTB : T < B) (hB : B ≤ w.heap.size) (own : w.ownsRow B 60 1 (.slice fa fl.length fc) fl.length (vu fl))
    (hpay : ∀ (b s : Nat) (W : World), b < 2 → s < 64 → w.grownBy W (some w.heap.size) → Calls Try.prog 18 #[.int .i64 (b : Int), .int .i64 (s : Int), .pointer (some ⟨G, 0, none⟩), .pointer (some ⟨H, 0, none⟩)] W fun e w' => e = .returned (.int .i64 (pay b s : Nat)) ∧ Below W.heap.size W w') :
    Calls Try.prog 17 #[.pointer (some ⟨T, 0, none⟩), .func (.func 18) #[] #[.pointer (some ⟨G, 0, none⟩), .pointer (some ⟨H, 0, none⟩)], .bool no] w fun e w' => e = .returned (.tuple #[]) ∧ ∃ fa' fc',
      w'.heap[T]? = some (.cells (tc (lst (newC pay no cost order)) (lst (rk (newO pay cost order))) (.slice fa' (fl.length + 1) fc')).toArray 53) ∧ w'.ownsRow B 60 1 (.slice fa' (fl.length + 1) fc') (fl.length + 1) (vu (fl ++ [frTo (hiK pay cost order) 64])) ∧ KeptB B T w w' := by
  have hinj := hid (fun a b ha hb => newO_inj (pay := pay) (cost := cost) hoi a b ha hb)
  have hlt128 := hid (fun a => newO_lt (pay := pay) (cost := cost) hob a)
  have hoe := lst_eta order hol
  obtain ⟨fr, hfr⟩ : ∃ fr, fr = Value.slice fa fl.length fc := ⟨_, rfl⟩
  rw [← hfr] at hT
  have Hfr := hid hfr
  have Hown := hid own
  have HT := hid hT
  have Hoe := hid hoe
  clear hfr own hoi hoe
  have hz := zero53
  have hz61 := zero61
  have hZ : tc (List.replicate 64 0) (List.replicate 64 0) (.slice none 0 0) = tc (lst (til (newC pay no cost order) 0)) (lst (til (newO pay cost order) 0)) (.slice none 0 0) := rfl
  rw [hZ] at hz
  have A0 := heap_alloc_new w (.cells (tc (lst (til (newC pay no cost order) 0)) (lst (til (newO pay cost order) 0)) (.slice none 0 0)).toArray 53)
  have b0 := below_alloc w (.cells (tc (lst (til (newC pay no cost order) 0)) (lst (til (newO pay cost order) 0)) (.slice none 0 0)).toArray 53)
  have A1 := hid A0
  clear A0
  generalize hzz : (tc (lst (til (newC pay no cost order) 0)) (lst (til (newO pay cost order) 0)) (.slice none 0 0)).toArray = Z at *
  have Hzz := hid hzz
  clear hzz
  generalize hyy : (vi (List.replicate 128 0)).toArray = Y at *
  have Hyy := hid hyy
  clear hyy
  go_enter Try.func17, Try.ntmps17
  go_wp2_with fail
  go_loopw [7, 22] (fun fv i wr => ∃ k : Nat, k ≤ 64 ∧ i = .int .i64 k ∧ fv = .int .u64 (frTo (hiK pay cost order) k : Nat) ∧
    Hid (wr.heap[w.heap.size]? = some (.cells (tc (lst (til (newC pay no cost order) k)) (lst (til (newO pay cost order) k)) (.slice none 0 0)).toArray 53)) ∧ w.grownBy wr (some w.heap.size)) (fun _ i _ => 64 - (intOf i).toNat)
  case atStart => exact ⟨0, by omega, rfl, rfl, by unfold Hid; rw [Hzz.out]; exact A1.out, grownBy_of_below b0 _⟩
  case round =>
    obtain ⟨k, hk, rfl, rfl, hN, hG⟩ := hrel
    by_cases hlt : k < 64
    · have e1 := and_one k hlt
      have e2 := or_hi k hlt
      have e3 : (k : Int) / 2 = ((k / 2 : Nat) : Int) := by omega
      have hb2 : k % 2 < 2 := Nat.mod_lt _ (by decide)
      have hl2 : k / 2 < 32 := by omega
      have hTl := row_lt hT
      have hTr : Hid (wr.heap[T]? = some (.cells (tc cost order fr).toArray 53)) := row_grown hT hG (by omega)
      have c1 : Hid (∀ w', Below wr.heap.size wr w' → w'.cell? ⟨T, k / 2, none⟩ = some (.int .i64 (nth cost (k / 2) : Nat))) := fun w' hb => by
        rw [cell_of_row _ _ _ _ _ _ (row_below hTr hb), List.getElem?_toArray, tc_cost hcl _ (by omega)]
      have c2 : Hid (∀ w', Below wr.heap.size wr w' → w'.cell? ⟨T, k / 2 + 32, none⟩ = some (.int .i64 (nth cost (k / 2 + 32) : Nat))) := fun w' hb => by
        rw [cell_of_row _ _ _ _ _ _ (row_below hTr hb), List.getElem?_toArray, tc_cost hcl _ (by omega)]
      have c3 : Hid (∀ w', Below wr.heap.size wr w' → w'.cell? ⟨T, 64 + k / 2, none⟩ = some (.int .i64 (nth order (k / 2) : Nat))) := fun w' hb => by
        rw [cell_of_row _ _ _ _ _ _ (row_below hTr hb), List.getElem?_toArray, tc_order hcl hol _ (by omega)]
      have c4 : Hid (∀ w', Below wr.heap.size wr w' → w'.cell? ⟨T, 64 + (k / 2 + 32), none⟩ = some (.int .i64 (nth order (k / 2 + 32) : Nat))) := fun w' hb => by
        rw [cell_of_row _ _ _ _ _ _ (row_below hTr hb), List.getElem?_toArray, tc_order hcl hol _ (by omega)]
      have p1 := fun W hW => hpay (k % 2) (k / 2) W hb2 (by omega) (grownBy_trans hG (grownBy_of_below hW _))
      have p2 := fun W hW => hpay (k % 2) (k / 2 + 32) W hb2 (by omega) (grownBy_trans hG (grownBy_of_below hW _))
      have g1 := hcb (k / 2)
      have g2 := hcb (k / 2 + 32)
      have g3 := hob (k / 2)
      have g4 := hob (k / 2 + 32)
      have g5 := hpb (k % 2) (k / 2)
      have g6 := hpb (k % 2) (k / 2 + 32)
      have Hhi : Hid (hiK pay cost order k = (decide (nth cost (k / 2 + 32) + pay (k % 2) (k / 2 + 32) < nth cost (k / 2) + pay (k % 2) (k / 2)) || (decide (nth cost (k / 2 + 32) + pay (k % 2) (k / 2 + 32) = nth cost (k / 2) + pay (k % 2) (k / 2)) && decide (nth order (k / 2 + 32) < nth order (k / 2))))) := rfl
      have Hnc : Hid (newC pay no cost order k = if k % 2 = 1 ∧ no = true then far else if hiK pay cost order k = true then nth cost (k / 2 + 32) + pay (k % 2) (k / 2 + 32) else nth cost (k / 2) + pay (k % 2) (k / 2)) := rfl
      have Hno : Hid (newO pay cost order k = 2 * (if hiK pay cost order k = true then nth order (k / 2 + 32) else nth order (k / 2)) + k % 2) := rfl
      generalize nth cost (k / 2) = cl at *
      generalize nth cost (k / 2 + 32) = ch at *
      generalize nth order (k / 2) = ol at *
      generalize nth order (k / 2 + 32) = oh at *
      generalize pay (k % 2) (k / 2) = x1 at *
      generalize pay (k % 2) (k / 2 + 32) = x2 at *
      obtain ⟨u, hu⟩ : ∃ u, u = k / 2 + 32 := ⟨_, rfl⟩
      have hu1 : u < 64 := by omega
      have hu2 : 32 ≤ u := by omega
      rw [← hu] at e2 p2 c2 c4
      clear hu
      generalize k % 2 = b at *
      generalize k / 2 = l at *
      have hTn : T < wr.heap.size := row_lt hTr
      have i1 : (l : Int) < 64 := by omega
      have i2 : (u : Int) < 64 := by omega
      have hG' := hid hG
      clear hpay hT hG hcb hob hpb hz hz61 HT Hown Hfr Hoe hinj hlt128
      go_wp2_with fail
      refine wp_region_can_all [9, 20] [0, 1, 2, 3, 4, 5, 6, 7, 8, 11, 12, 13, 14, 15, 16, 17, 18, 19, 9, 10, 20, 21, 22, 23] (Below wr.heap.size) (fun _ => Below.refl _ _) (fun _ _ _ h k => h.trans k) (by kernel_rfl) (by kernel_rfl) ?_
      simp only [List.map_cons, List.map_nil, List.contains_cons, List.contains_nil, List.getD_cons_zero, List.getD_cons_succ, Nat.reduceBEq, Bool.or_false, Bool.or_true]
      have c1' : ∀ w', Below wr.heap.size wr.drew w' → w'.cell? ⟨T, l, none⟩ = some (.int .i64 (cl : Nat)) := fun w' hb => c1 w' (((Below.refl wr.heap.size wr).drew).trans hb)
      have c2' : ∀ w', Below wr.heap.size wr.drew w' → w'.cell? ⟨T, u, none⟩ = some (.int .i64 (ch : Nat)) := fun w' hb => c2 w' (((Below.refl wr.heap.size wr).drew).trans hb)
      repeat (refine wpL_do rfl (fun w' hw' => (by go_simp; rfl)) ?_; simp only [Act.put, List.setIfInBounds_toArray, List.set_cons_succ, List.set_cons_zero])
      obtain ⟨a, ha⟩ : ∃ a, a = cl + x1 := ⟨_, rfl⟩
      obtain ⟨z, hz⟩ : ∃ z, z = ch + x2 := ⟨_, rfl⟩
      have s1 : IntKind.i64.wrap ((cl : Int) + (x1 : Int)) = (a : Int) := by rw [IntWalk.i64_in _ (by omega)]; omega
      have s2 : IntKind.i64.wrap ((ch : Int) + (x2 : Int)) = (z : Int) := by rw [IntWalk.i64_in _ (by omega)]; omega
      rw [← ha, ← hz] at Hhi Hnc
      have ha2 : a ≤ 1125899906843000 := by omega
      have hz2 : z ≤ 1125899906843000 := by omega
      clear ha hz g1 g2 g5 g6
      refine wpL_call rfl (fun K hK => ?_)
      go_wp2_with fail
      refine (p1 _ (((Below.refl wr.heap.size wr).drew))).mono ?_
      rintro e w6 ⟨rfl, b6⟩
      refine hK _ _ b6 ?_
      clear hK K p1
      have b6' := ((Below.refl wr.heap.size wr).drew).trans b6
      try simp only [Act.put, List.setIfInBounds_toArray, List.set_cons_succ, List.set_cons_zero]
      repeat (refine wpL_do rfl (fun w' hw' => (by go_simp; rfl)) ?_; simp only [Act.put, List.setIfInBounds_toArray, List.set_cons_succ, List.set_cons_zero])
      refine wpL_call rfl (fun K hK => ?_)
      go_wp2_with fail
      refine (p2 _ b6').mono ?_
      rintro e w7 ⟨rfl, b7⟩
      refine hK _ _ (b7.mono b6'.size) ?_
      clear hK K p2
      have b7' := b6'.trans (b7.mono b6'.size)
      try simp only [Act.put, List.setIfInBounds_toArray, List.set_cons_succ, List.set_cons_zero]
      repeat (refine wpL_do rfl (fun w' hw' => (by go_simp; rfl)) ?_; simp only [Act.put, List.setIfInBounds_toArray, List.set_cons_succ, List.set_cons_zero])
      refine wpL_nil ?_
      have c3' := c3.out w7 b7'
      have c4' := c4.out w7 b7'
      have hNr := row_below hN b7'
      have hTr7 := row_below hTr b7'
      have hG7 := grownBy_trans hG' (grownBy_of_below b7' _)
      clear c1 c2 c3 c4 c1' c2' b6 b7 b6' s1 s2
      clear hN hTr hG' b7'
      obtain ⟨hi, hhi⟩ : ∃ hi, hi = hiK pay cost order k := ⟨_, rfl⟩
      rw [← hhi] at Hhi Hnc Hno
      have Hfr : Hid (hi = true → bits .or .u64 (frTo (hiK pay cost order) k : Int) ((2 ^ k : Nat) : Int) = (frTo (hiK pay cost order) (k + 1) : Int)) := fun h => from_or _ k hlt (by rw [← hhi, h])
      have Hfr2 : Hid (hi = false → frTo (hiK pay cost order) (k + 1) = frTo (hiK pay cost order) k) := fun h => by rw [frTo, ← hhi, h]; rfl
      clear hhi
      generalize hfn : frTo (hiK pay cost order) (k + 1) = fn at *
      have Hfn := hid hfn
      clear hfn
      generalize frTo (hiK pay cost order) k = f0 at *
      obtain ⟨bst, hbst⟩ : ∃ x, x = if hi = true then z else a := ⟨_, rfl⟩
      obtain ⟨kk, hkk⟩ : ∃ x, x = if hi = true then u else l := ⟨_, rfl⟩
      obtain ⟨ok, hok⟩ : ∃ x, x = if hi = true then oh else ol := ⟨_, rfl⟩
      rw [← hbst] at Hnc
      rw [← hok] at Hno
      have c5 : w7.cell? ⟨T, 64 + kk, none⟩ = some (.int .i64 (ok : Nat)) := by
        cases hi
        · rw [hkk, hok]; exact c3'
        · rw [hkk, hok]; exact c4'
      have C5 := hid c5
      have hok2 : ok ≤ 63 := by rw [hok]; split <;> omega
      have hkk2 : kk < 64 := by rw [hkk]; split <;> omega
      have Hbst := hid hbst
      have Hkk := hid hkk
      clear c5 hbst hkk hok
      go_upto_region 9 with (fail)
      go_cut [78] (fun v wx => v = .bool hi ∧ Below w7.heap.size w7 wx)
      case first =>
        rcases (show z < a ∨ (z = a ∧ oh < ol) ∨ (z = a ∧ ol ≤ oh) ∨ a < z by omega) with h | ⟨h, h'⟩ | ⟨h, h'⟩ | h
        · have hi1 : hi = true := by rw [Hhi.out, decide_eq_true h]; rfl
          subst hi1
          have d1 : decide (z < a) = true := decide_eq_true h
          clear h
          go_quiet (fail)
          go_wp2_with fail
          go_meet
          exact ⟨rfl, below_drewN _ _⟩
        · have hi1 : hi = true := by rw [Hhi.out, decide_eq_true h, decide_eq_true h']; simp
          subst hi1
          subst h
          have d1 : decide (z < z) = false := decide_eq_false (by omega)
          have d2 : decide (oh < ol) = true := decide_eq_true h'
          clear h'
          go_quiet (fail)
          go_wp2_with fail
          go_meet
          exact ⟨rfl, below_drewN _ _⟩
        · have hi1 : hi = false := by rw [Hhi.out, decide_eq_false (show ¬ z < a by omega), decide_eq_false (show ¬ oh < ol by omega)]; simp
          subst hi1
          subst h
          have d1 : decide (z < z) = false := decide_eq_false (by omega)
          have d2 : decide (oh < ol) = false := decide_eq_false (by omega)
          clear h'
          go_quiet (fail)
          go_wp2_with fail
          go_meet
          exact ⟨rfl, below_drewN _ _⟩
        · have hi1 : hi = false := by rw [Hhi.out, decide_eq_false (show ¬ z < a by omega), decide_eq_false (show ¬ z = a by omega)]; simp
          subst hi1
          have d1 : decide (z < a) = false := decide_eq_false (by omega)
          have d2 : ((z : Int) == a) = false := by simp; omega
          clear h
          go_quiet (fail)
          go_wp2_with fail
          go_meet
          exact ⟨rfl, below_drewN _ _⟩
      case rest =>
        obtain ⟨rfl, hB⟩ := hcut
        have C5 : Hid (wc.cell? ⟨T, 64 + kk, none⟩ = some (.int .i64 (ok : Nat))) := (hB.cell (p := ⟨T, 64 + kk, none⟩) (row_lt hTr7)).trans C5.out
        have hNr := row_below hNr hB
        have hTr7 := row_below hTr7 hB
        have hG7 := grownBy_trans hG7 (grownBy_of_below hB _)
        clear hB c3' c4' Hhi
        go_upto_if 78 with (fail)
        go_cut [7, 14, 15] (fun v7 v14 v15 wx => v7 = .int .u64 (fn : Nat) ∧ v14 = .int .i64 (bst : Nat) ∧ v15 = .int .i64 (kk : Nat) ∧ wx = wc)
        case first =>
          cases hi
          · have e7 := Hbst.out
            have e8 := Hkk.out
            have e9 := Hfr2.out rfl
            simp only [Bool.false_eq_true, if_false] at e7 e8
            subst e7 e8 e9
            go_wp2_with fail
            go_meet
            exact ⟨rfl, rfl, rfl, rfl⟩
          · have e7 := Hbst.out
            have e8 := Hkk.out
            have e9 := Hfr.out rfl
            simp only [if_true] at e7 e8
            subst e7 e8
            have pw := hid (shl_wrap k hlt)
            have e9 := hid e9
            go_wp2_with fail
            go_meet
            exact ⟨by rw [pw.out, e9.out], rfl, rfl, rfl⟩
        case rest =>
          obtain ⟨rfl, rfl, rfl, rfl⟩ := hcut
          clear Hfr Hfr2 Hbst Hkk hz2 ha2
          obtain ⟨nc, hnc⟩ : ∃ x, x = newC pay no cost order k := ⟨_, rfl⟩
          obtain ⟨no2, hno2⟩ : ∃ x, x = newO pay cost order k := ⟨_, rfl⟩
          rw [← hnc] at Hnc
          rw [← hno2] at Hno
          have SC := til_set (newC pay no cost order) k hlt
          have SO := til_set (newO pay cost order) k hlt
          rw [← hnc] at SC
          rw [← hno2] at SO
          clear hnc hno2
          have SC := hid SC
          have SO := hid SO
          have L1 := lst_len (til (newC pay no cost order) k)
          have L2 := lst_len (til (newO pay cost order) k)
          generalize hlc1 : lst (til (newC pay no cost order) (k + 1)) = lc1 at *
          generalize hlo1 : lst (til (newO pay cost order) (k + 1)) = lo1 at *
          have Hlc1 := hid hlc1
          have Hlo1 := hid hlo1
          clear hlc1 hlo1
          generalize lst (til (newC pay no cost order) k) = lc at *
          generalize lst (til (newO pay cost order) k) = lo at *
          have hN1 : w.heap.size < wc.heap.size := row_lt hNr
          have HNr := hid hNr
          have HTr := hid hTr7
          have HG := hid hG7
          have HL1 := hid L1
          have HL2 := hid L2
          clear hNr hTr7 hG7 L1 L2
          obtain ⟨far1, hfar1⟩ : ∃ x : Bool, x = (decide (b = 1) && no) := ⟨_, rfl⟩
          have Hfar := hid hfar1
          clear hfar1
          go_upto_region 12 with (fail)
          go_cut [89] (fun v wx => v = .bool far1 ∧ wx = wc)
          case first =>
            by_cases hb1 : b = 1
            · subst hb1
              have e7 := hid (show far1 = no by have h := Hfar.out; simpa using h)
              go_wp2_with fail
              go_meet
              exact ⟨by rw [e7.out], rfl⟩
            · obtain rfl : b = 0 := by omega
              have e7 := hid (show far1 = false by have h := Hfar.out; simpa using h)
              go_wp2_with fail
              go_meet
              exact ⟨by rw [e7.out], rfl⟩
          case rest =>
          obtain ⟨rfl, rfl⟩ := hcut
          go_upto_if 89 with (fail)
          go_cut [14] (fun v14 wx => v14 = .int .i64 (nc : Nat) ∧ wx = wc)
          case first =>
            cases far1
            · have e7 : Hid (nc = bst) := by
                have h := Hnc.out
                rw [if_neg (by
                  rintro ⟨h1, h2⟩
                  have h3 := Hfar.out
                  rw [h1, h2] at h3
                  simp at h3)] at h
                exact h
              go_wp2_with fail
              go_meet
              exact ⟨by rw [e7.out], rfl⟩
            · have e7 : Hid (nc = far) := by
                have h := Hnc.out
                rw [if_pos (by
                  have h3 := Hfar.out
                  simpa using h3)] at h
                exact h
              go_wp2_with fail
              go_meet
              exact ⟨by rw [e7.out]; rfl, rfl⟩
          case rest =>
            obtain ⟨rfl, rfl⟩ := hcut
            clear Hnc Hfar
            have c6 : Hid (∀ w', wc.grownBy w' (some w.heap.size) → w'.cell? ⟨T, 64 + kk, none⟩ = some (.int .i64 (ok : Nat))) := fun w' hg => (World.cell?_of_block (w := wc) (hg.block T (row_lt HTr) (fun e => by cases e; omega))).trans C5.out
            have m1 : IntKind.i64.wrap (2 * (ok : Int)) = 2 * (ok : Int) := by rw [IntWalk.i64_in _ (by omega)]
            have m2 : IntKind.i64.wrap (2 * (ok : Int) + (b : Int)) = (no2 : Int) := by rw [IntWalk.i64_in _ (by omega), Hno.out]; omega
            have i3 : (kk : Int) < 64 := by omega
            have i4 : (k : Int) < 64 := by omega
            clear C5 Hno i1 i2
            go_upto_region 14 with (fail)
            refine wp_region_can_all [14, 17] [0, 1, 2, 3, 4, 5, 6, 7, 8, 9, 10, 11, 12, 13, 15, 14, 16, 17] (fun u u' => u.grownBy u' (some w.heap.size)) (fun u => World.grownBy.refl u _) (fun _ _ _ h k => grownBy_trans h k) (by kernel_rfl) (by kernel_rfl) ?_
            simp only [List.map_cons, List.map_nil, List.contains_cons, List.contains_nil, List.getD_cons_zero, List.getD_cons_succ, Nat.reduceBEq, Bool.or_false, Bool.or_true]
            have c7 : ∀ w', wc.drew.grownBy w' (some w.heap.size) → w'.cell? ⟨T, 64 + kk, none⟩ = some (.int .i64 (ok : Nat)) := fun w' hg => c6.out w' (grownBy_trans (grownBy_drew wc _) hg)
            have HNr : Hid (wc.drew.heap[w.heap.size]? = some (.cells (tc lc lo (.slice none 0 0)).toArray 53)) := HNr
            have HG : Hid (w.grownBy wc.drew (some w.heap.size)) := grownBy_trans HG.out (grownBy_drew wc _)
            have hN1 : w.heap.size < wc.drew.heap.size := hN1
            have f1 : wc.drew.cell? ⟨w.heap.size, k, none⟩ = some (.int .i64 (nth lc k : Nat)) := by
              rw [cell_of_row _ _ _ _ _ _ HNr.out, List.getElem?_toArray, tc_cost HL1.out _ hlt]
            have f2 : wc.drew.frozen? ⟨w.heap.size, k, none⟩ = false := frozen_row HNr.out k
            clear c6 HTr
            generalize wc.drew = V at *
            repeat (refine wpL_do rfl (fun w' hw' => (by go_simp; rfl)) ?_; simp only [Act.put, List.setIfInBounds_toArray, List.set_cons_succ, List.set_cons_zero])
            refine wpL_call rfl (fun K hK => ?_)
            go_wp2_with fail
            obtain ⟨R8, g8⟩ := set_row (cs' := (tc (lc.set k nc) lo (.slice none 0 0)).toArray) HNr.out k (.int .i64 (nc : Int)) (by rw [List.setIfInBounds_toArray, tc_set_cost HL1.out k nc hlt])
            rw [SC.out] at R8
            refine hK _ _ g8 ?_
            clear hK K f1 f2
            have HG := hid (grownBy_trans HG.out g8)
            have hN1 : w.heap.size < (V.setCell ⟨w.heap.size, k, none⟩ (.int .i64 (nc : Int))).heap.size := Nat.lt_of_lt_of_le hN1 g8.size
            have hL3 : lc1.length = 64 := by rw [← SC.out, List.length_set, HL1.out]
            have f1 : (V.setCell ⟨w.heap.size, k, none⟩ (.int .i64 (nc : Int))).cell? ⟨w.heap.size, 64 + k, none⟩ = some (.int .i64 (nth lo k : Nat)) := by
              rw [cell_of_row _ _ _ _ _ _ R8, List.getElem?_toArray, tc_order hL3 HL2.out _ hlt]
            have f2 : (V.setCell ⟨w.heap.size, k, none⟩ (.int .i64 (nc : Int))).frozen? ⟨w.heap.size, 64 + k, none⟩ = false := frozen_row R8 (64 + k)
            have HL3 := hid hL3
            have R8 := hid R8
            clear hL3 HNr c7 g8
            try simp only [Act.put, List.setIfInBounds_toArray, List.set_cons_succ, List.set_cons_zero]
            generalize V.setCell ⟨w.heap.size, k, none⟩ (.int .i64 (nc : Int)) = V8 at *
            repeat (refine wpL_do rfl (fun w' hw' => (by go_simp; rfl)) ?_; simp only [Act.put, List.setIfInBounds_toArray, List.set_cons_succ, List.set_cons_zero])
            refine wpL_call rfl (fun K hK => ?_)
            go_wp2_with fail
            obtain ⟨R9, g9⟩ := set_row (cs' := (tc lc1 (lo.set k no2) (.slice none 0 0)).toArray) R8.out (64 + k) (.int .i64 (no2 : Int)) (by rw [List.setIfInBounds_toArray, tc_set_order HL3.out HL2.out k no2 hlt])
            rw [SO.out] at R9
            refine hK _ _ g9 ?_
            clear hK K f1 f2
            try simp only [Act.put, List.setIfInBounds_toArray, List.set_cons_succ, List.set_cons_zero]
            refine wpL_nil ?_
            have R9 := hid R9
            have HG := hid (grownBy_trans HG.out g9)
            clear R8 g9
            generalize V8.setCell ⟨w.heap.size, 64 + k, none⟩ (.int .i64 (no2 : Int)) = V9 at *
            go_wp2_with fail
            go_roundw
            case rel => exact ⟨k + 1, by omega, by go_num, by rw [Hfn.out], by unfold Hid; rw [Hlc1.out, Hlo1.out]; exact R9.out, HG.out⟩
            case measure => simp [intOf]; omega
    · obtain rfl : k = 64 := by omega
      have hN := hN.out
      rw [til_all, til_all] at hN
      have hTr := row_grown HT.out hG (by have := row_lt HT.out; omega)
      have hN1 : w.heap.size < wr.heap.size := row_lt hN
      have hTl : T < w.heap.size := row_lt HT.out
      have HN := hid hN
      have HTr := hid hTr
      have own := Hown.out.kept hG (by
        have h := own_ne Hown.out HT.out (by decide)
        rcases Hown.out.2 with ⟨h1, _⟩ | ⟨g, cap, cur, h1, _, hg, _⟩
        · rw [h1]; exact .inl rfl
        · rw [h1]
          refine .inr (fun e => ?_)
          simp only [Value.ownBlock, Option.some.injEq] at e
          have := row_lt hg
          omega)
      have Hown := hid own
      have HG := hid hG
      have HK := hid (KeptB.grown (T := T) hG hB (fun k e => by cases e; exact .inl hB))
      have LC := lst_len (newC pay no cost order)
      have LO := lst_len (newO pay cost order)
      have HLC := hid LC
      have HLO := hid LO
      have HLv : (vi (lst (newC pay no cost order))).length = 64 := by rw [vi_len, LC]
      have Hld : Hid (wr.rangeAt w.heap.size 0 (vi (lst (newC pay no cost order)))) := range_row (a := []) (z := vi (lst (newO pay cost order)) ++ [.slice none 0 0]) HN.out
      have Hth : Hid (wr.there T 0 64) := there_row HTr.out 0 64 (by simp [tc, vi_len, hcl, hol])
      obtain ⟨R1, G1⟩ := set_cells (e := 53) (b := T) (vi order ++ [fr]) (vi (lst (newC pay no cost order))) [] (vi cost) wr HTr.out (by rw [vi_len, vi_len, hcl, LC])
      have one1 := all_oneCell_toArray (vi_oneCell (lst (newC pay no cost order)))
      have R1 : Hid ((wr.setCells T 0 (vi (lst (newC pay no cost order)))).heap[T]? = some (.cells (tc (lst (newC pay no cost order)) order fr).toArray 53)) := R1
      have G1 : Hid (wr.grownBy (wr.setCells T 0 (vi (lst (newC pay no cost order)))) (some T)) := G1
      clear hN hTr own hG LC LO A1 b0 hz hpay hpb hcb
      clear HLv
      have HLv := hid (show (vi (lst (newC pay no cost order))).length = 64 by rw [vi_len, HLC.out])
      generalize hfrom : frTo (hiK pay cost order) 64 = from1 at *
      have Hfrom := hid hfrom
      clear hfrom
      generalize vi (lst (newC pay no cost order)) = CL at *
      go_upto_region 17 with (first
        | (with_reducible refine wpList_load_mid (op := ⟨some 109, _, _, _, _, _⟩) rfl 50 _ rfl w.heap.size 0 rfl CL (.array 64 3) Hld.out Try.underlying50 rfl (by rw [HLv.out]; kernel_rfl) ?_)
        | (with_reducible refine wpList_store_mid (op := ⟨none, .store 50 _ _, _, _, _, _⟩) rfl 50 _ _ rfl T 0 CL.toArray rfl rfl (by rw [List.size_toArray, HLv.out]; exact Hth.out) (by rw [List.size_toArray, HLv.out]; kernel_rfl) one1 ?_))
      have HN := hid (row_grown HN.out G1.out (by omega))
      have HK := hid (HK.out.trans (KeptB.grown (B := B) (T := T) G1.out (by omega) (fun k e => by cases e; exact .inr rfl)))
      have hV1 : wr.heap.size ≤ (wr.setCells T 0 CL).heap.size := G1.out.size
      have own := Hown.out.kept G1.out (own_ne Hown.out HTr.out (by decide))
      clear Hld Hth HTr Hown HG G1
      clear one1
      generalize wr.setCells T 0 CL = V at *
      have hTl2 := row_lt R1.out
      have c1 : V.cell? ⟨T, 128, none⟩ = some fr := by rw [cell_of_row _ _ _ _ _ _ R1.out, List.getElem?_toArray, tc_from HLC.out hol]
      rw [Hfr.out] at c1
      have hBV : B ≤ V.heap.size := by omega
      have R1' := R1
      clear R1 hcl
      have b1 := below_alloc V (.cells #[.int .u64 (from1 : Int)] 60)
      have hrd := rd_lit60 V from1
      have Hown := hid own
      clear own
      go_wp2_with (at_builtin; refine hold ?_)
      unfold Hid
      obtain ⟨i0, hi, t0, t1, t2⟩ := info_parts Try.info60
      refine wpList_append_rd rfl _ _ 51 rfl B 60 i0 (.int .u64 0) 8 Try.underlying51 hi t0 t1 t2 rfl fa fl.length fc _ rfl (ownsRow_below Hown.out b1) (some ⟨V.heap.size, 0, none⟩) 1 1 (vu [from1]) rfl hrd (vu_oneCell _) (by omega) (by unfold maxLen; omega) (by simp; omega) ?_
      intro ao5 cp5 W5 own5 gr Bx
      rw [← vu_append] at own5
      have hb5 := Hown.out
      have R5 : Hid (W5.heap[T]? = some (.cells (tc (lst (newC pay no cost order)) order (.slice fa fl.length fc)).toArray 53)) := by
        have h := (Bx.block T hTB).trans (row_below R1'.out b1)
        rw [Hfr.out] at h
        exact h
      have HN := hid (row_kept (row_below HN.out b1) (ownsRow_below Hown.out b1) gr (by decide))
      have HK := hid (HK.out.trans ((KeptB.below (B := B) (T := T) b1 hBV).trans ⟨Bx.os, Bx.tape, Bx.output, Bx.size, fun k hk _ => Bx.block k hk⟩))
      have hV5 : V.heap.size < W5.heap.size := by have := Bx.size; simp at this; omega
      have Own5 := hid own5
      clear own5 gr Bx hrd b1 Hown c1 R1' hb5 hi t0 t1 t2
      have c1 : W5.cell? ⟨T, 128, none⟩ = some (.slice fa fl.length fc) := by rw [cell_of_row _ _ _ _ _ _ R5.out, List.getElem?_toArray, tc_from HLC.out hol]
      have c2 : W5.frozen? ⟨T, 128, none⟩ = false := frozen_row R5.out 128
      have hT5 := row_lt R5.out
      go_upto_region 18 with (fail)
      obtain ⟨R6, g6⟩ := set_row (cs' := (tc (lst (newC pay no cost order)) order (.slice ao5 (fl.length + 1) cp5)).toArray) R5.out 128 (.slice ao5 (fl.length + 1) cp5) (by rw [List.setIfInBounds_toArray, tc_set_from HLC.out hol])
      have HN := hid (row_grown HN.out g6 (by omega))
      have HK := hid (HK.out.trans (KeptB.grown (B := B) (T := T) g6 (by omega) (fun k e => by cases e; exact .inr rfl)))
      have Own6 := hid (Own5.out.kept g6 (own_ne Own5.out R5.out (by decide)))
      have hV6 : W5.heap.size ≤ (W5.setCell ⟨T, 128, none⟩ (.slice ao5 (fl.length + 1) cp5)).heap.size := g6.size
      have R6 := hid R6
      clear R5 c1 c2 g6 Own5
      generalize W5.setCell ⟨T, 128, none⟩ (.slice ao5 (fl.length + 1) cp5) = V6 at *
      have A6 := heap_alloc_new V6 (.cells Y 61)
      have b6 := below_alloc V6 (.cells Y 61)
      have R7 := hid (row_below R6.out b6)
      have HN := hid (row_below HN.out b6)
      have Own7 := hid (ownsRow_below Own6.out b6)
      have HK := hid (HK.out.trans (KeptB.below (B := B) (T := T) b6 (by omega)))
      have hV7 : V6.heap.size < (V6.alloc (.cells Y 61)).heap.size := row_lt A6
      obtain ⟨yb, hyb⟩ : ∃ yb, yb = V6.heap.size := ⟨_, rfl⟩
      have A6 : Hid ((V6.alloc (.cells Y 61)).heap[yb]? = some (.cells (vi (lst2 (byTo (newO pay cost order) 0))).toArray 61)) := by rw [hyb]; rw [← Hyy.out] at A6 ⊢; exact A6
      have Hyb := hid hyb
      have hyl : yb < (V6.alloc (.cells Y 61)).heap.size := by omega
      have hyT : T < yb := by omega
      have hyN : w.heap.size < yb := by omega
      have hyB : B ≤ yb := by omega
      clear b6 Own6 R6 hyb
      have Hld : Hid ((V6.alloc (.cells Y 61)).rangeAt w.heap.size 64 (vi (lst (newO pay cost order)))) := by
        have h := range_row (a := vi (lst (newC pay no cost order))) (z := [.slice none 0 0]) HN.out
        rw [vi_len, HLC.out] at h
        exact h
      have HLov := hid (show (vi (lst (newO pay cost order))).length = 64 by rw [vi_len, HLO.out])
      have hix := fun (k : Nat) (hk : k < 64) (w' : World) => ix50 (lst (newO pay cost order)) k HLO.out hk w'
      have Hix := hid hix
      clear hix
      generalize hLV : vi (lst (newO pay cost order)) = LV at *
      have HLV := hid hLV
      clear hLV
      go_upto_region 19 with (fail)
      rw [← Hyb.out]
      generalize V6.alloc (.cells Y 61) = V7 at *
      clear hz61
      go_wp2_with (first
        | (with_reducible refine wpList_load_mid (op := ⟨some 123, _, _, _, _, _⟩) rfl 50 _ rfl w.heap.size 64 rfl LV (.array 64 3) Hld.out Try.underlying50 rfl (by rw [HLov.out]; kernel_rfl) ?_))
      go_loopw [124] (fun i wx => ∃ k : Nat, k ≤ 64 ∧ i = .int .i64 k ∧ Hid (wx.heap[yb]? = some (.cells (vi (lst2 (byTo (newO pay cost order) k))).toArray 61)) ∧ V7.grownBy wx (some yb)) (fun i _ => 64 - (intOf i).toNat)
      case atStart => exact ⟨0, by omega, rfl, A6, World.grownBy.refl _ _⟩
      case round =>
        obtain ⟨k, hk, rfl, hN, hG⟩ := hrel
        by_cases hlt : k < 64
        · have h1 := Hix.out k hlt
          have hv := hlt128.out k
          have hb := by_step (newO pay cost order) k hv
          rw [lst_nth _ _ hlt] at h1
          generalize newO pay cost order k = v at *
          have Hb := hid hb
          clear hb
          have LL := lst2_len (byTo (newO pay cost order) k)
          have f1 : wr.cell? ⟨yb, v, none⟩ = some (.int .i64 (nth (lst2 (byTo (newO pay cost order) k)) v : Nat)) := by
            rw [cell_of_row _ _ _ _ _ _ hN.out, List.getElem?_toArray, vi_get _ _ (by omega)]
          have f2 : wr.frozen? ⟨yb, v, none⟩ = false := frozen_row hN.out v
          have hvi : (v : Int) < 128 := by omega
          have hw1 : IntKind.i64.wrap ((k : Int) + 1) = ((k + 1 : Nat) : Int) := by rw [IntWalk.i64_in _ (by omega)]; omega
          have hG' := hid hG
          clear hG LL
          obtain ⟨R9, g9⟩ := set_row (cs' := (vi (lst2 (byTo (newO pay cost order) (k + 1)))).toArray) hN.out v (.int .i64 ((k : Int) + 1)) (by rw [List.setIfInBounds_toArray, show (k : Int) + 1 = ((k + 1 : Nat) : Int) by omega, vi_set, Hb.out])
          have R9 := hid R9
          have G9 := hid (grownBy_trans hG'.out g9)
          clear g9
          go_wp2_with fail
          go_roundw
          case rel => exact ⟨k + 1, by omega, by go_num, R9, G9.out⟩
          case measure => simp [intOf]; omega
        · obtain rfl : k = 64 := by omega
          have R8 := hid (row_grown R7.out hG (by omega))
          have Own8 := hid (Own7.out.kept hG (by
            rcases own_ne Own7.out A6.out (by decide) with h | h
            · exact .inl h
            · exact .inr h))
          have HK := hid (HK.out.trans (KeptB.grown (B := B) (T := T) hG (by omega) (fun k e => by cases e; exact .inl hyB)))
          have hTw := row_lt R8.out
          have hBw : B ≤ wr.heap.size := by have := hG.size; omega
          clear R7 Own7 HN A6 hG
          have Hlb := hid (show (vi (lst2 (byTo (newO pay cost order) 64))).length = 128 by rw [vi_len, lst2_len])
          have Hld : Hid (wr.rangeAt yb 0 (vi (lst2 (byTo (newO pay cost order) 64)))) := range_row (a := []) (z := []) (by rw [List.append_nil]; exact hN.out)
          have Hix := hid (fun (k : Nat) (hk : k < 128) (w' : World) => ix61 (lst2 (byTo (newO pay cost order) 64)) k (lst2_len _) hk w')
          have R8 : Hid (wr.heap[T]? = some (.cells (tc (lst (newC pay no cost order)) (lst (ordTo (newO pay cost order) (nth order) 0)) (.slice ao5 (fl.length + 1) cp5)).toArray 53)) := by
            unfold Hid
            rw [ord_zero, Hoe.out]
            exact R8.out
          have hr0 := hid (rnk_zero (newO pay cost order) 64)
          generalize hLV : vi (lst2 (byTo (newO pay cost order) 64)) = LW at *
          clear hLV
          go_wp2_with (first
            | (with_reducible refine wpList_load_mid (op := ⟨some 133, _, _, _, _, _⟩) rfl 61 _ rfl yb 0 rfl LW (.array 128 3) Hld.out Try.underlying61 rfl (by rw [Hlb.out]; kernel_rfl) ?_))
          go_loopw [19, 134] (fun n i wx => ∃ m : Nat, m ≤ 128 ∧ i = .int .i64 m ∧ n = .int .i64 (rnk (newO pay cost order) m 64 : Nat) ∧ Hid (wx.heap[T]? = some (.cells (tc (lst (newC pay no cost order)) (lst (ordTo (newO pay cost order) (nth order) m)) (.slice ao5 (fl.length + 1) cp5)).toArray 53)) ∧ wr.grownBy wx (some T)) (fun _ i _ => 128 - (intOf i).toNat)
          case atStart => exact ⟨0, by omega, rfl, by rw [hr0.out]; rfl, R8, World.grownBy.refl _ _⟩
          case round =>
            obtain ⟨m, hm, rfl, rfl, hR, hG⟩ := hrel
            by_cases hlt : m < 128
            · have h1 := Hix.out m hlt
              rw [lst2_nth _ _ hlt] at h1
              have hrl := rnk_le (newO pay cost order) m 64
              have hbl := byTo_le (newO pay cost order) m 64
              have LR := lst_len (ordTo (newO pay cost order) (nth order) m)
              have HG := hid hG
              clear hG
              by_cases hv0 : byTo (newO pay cost order) 64 m = 0
              · obtain ⟨q1, q2⟩ := ord_none (newO pay cost order) (nth order) m hv0
                have Q := hid (And.intro q1 q2)
                have d0 : ((byTo (newO pay cost order) 64 m : Nat) : Int) = 0 := by omega
                rw [hv0] at h1
                clear q1 q2 d0 hv0
                generalize rnk (newO pay cost order) m 64 = rr at *
                go_wp2_with fail
                go_roundw
                case rel => exact ⟨m + 1, by omega, by go_num, by rw [Q.out.2], by unfold Hid; rw [Q.out.1]; exact hR.out, HG.out⟩
                case measure => simp [intOf]; omega
              · obtain ⟨q1, q2⟩ := ord_one (newO pay cost order) (nth order) hinj.out m hv0
                have Q := hid (And.intro q1 q2)
                clear q1 q2
                obtain ⟨y, hy⟩ : ∃ y, byTo (newO pay cost order) 64 m = y + 1 := ⟨byTo (newO pay cost order) 64 m - 1, by omega⟩
                rw [hy, Nat.add_sub_cancel] at Q
                rw [hy] at h1 hbl
                have f1 : wr.cell? ⟨T, 64 + y, none⟩ = some (.int .i64 (nth (lst (ordTo (newO pay cost order) (nth order) m)) y : Nat)) := by
                  rw [cell_of_row _ _ _ _ _ _ hR.out, List.getElem?_toArray, tc_order HLC.out LR _ (by omega)]
                have f2 : wr.frozen? ⟨T, 64 + y, none⟩ = false := frozen_row hR.out _
                have y1 : (y : Int) < 64 := by omega
                have y2 : ((y + 1 : Nat) : Int) - 1 = (y : Int) := by omega
                have y3 : (0 : Int) < ((y + 1 : Nat) : Int) := by omega
                have LR' := hid LR
                clear hy hv0 LR
                obtain ⟨R9, g9⟩ := set_row (cs' := (tc (lst (newC pay no cost order)) (lst (ordTo (newO pay cost order) (nth order) (m + 1))) (.slice ao5 (fl.length + 1) cp5)).toArray) hR.out (64 + y) (.int .i64 (rnk (newO pay cost order) m 64 : Nat)) (by rw [List.setIfInBounds_toArray, tc_set_order HLC.out LR'.out _ _ (by omega), Q.out.1])
                have R9 := hid R9
                have G9 := hid (grownBy_trans HG.out g9)
                clear g9
                have QQ := hid Q.out.2
                clear Q
                generalize hnr : rnk (newO pay cost order) (m + 1) 64 = nr at *
                have Hnr := hid hnr
                clear hnr
                generalize rnk (newO pay cost order) m 64 = rr at *
                obtain ⟨y', hy'⟩ : ∃ y', y' = y + 1 := ⟨_, rfl⟩
                rw [← hy'] at h1 y2 y3
                clear hy'
                go_wp2_with fail
                go_roundw
                case rel => exact ⟨m + 1, by omega, by go_num, by rw [Hnr.out, QQ.out]; go_num, R9, G9.out⟩
                case measure => simp [intOf]; omega
            · obtain rfl : m = 128 := by omega
              have hfin : Hid (lst (ordTo (newO pay cost order) (nth order) 128) = lst (rk (newO pay cost order))) := ord_all _ _ (fun s _ => hlt128.out s)
              go_wp2_with fail
              go_end0
              refine ⟨rfl, ao5, cp5, ?_, ?_, HK.out.trans (KeptB.grown (B := B) (T := T) hG (by omega) (fun k e => by cases e; exact .inr rfl))⟩
              · rw [← hfin.out]; exact hR.out
              · rw [Hfrom.out]; exact Own8.out.kept hG (own_ne Own8.out R8.out (by decide))
end Go.Proofs.Ytaedanklpedmkaa
