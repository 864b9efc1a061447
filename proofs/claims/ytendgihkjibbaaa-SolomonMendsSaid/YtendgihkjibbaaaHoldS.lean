/- holed: holes that lie in the word, each once, are taken. -/
import Derived.Test.YtendgihkjibbaaaDecS
import Derived.ChangeSlices
import Derived.Maps.OwnOps
import Derived.Maps.Views
namespace Go.Proofs.Ytendgihkjibbaaa
set_option linter.unusedVariables false
open Go.RowKit Go.Maps

theorem hole_fn (h n : Nat) (B : Nat) (w : World) (hc : w.cell? ⟨B, 0, none⟩ = some (.int .i64 (n : Int))) (hh : h < n) (hn : n ≤ 100000) :
    Calls Try.prog 21 #[.int .i64 (h : Int), .pointer (some ⟨B, 0, none⟩)] w fun e w' => e = .returned (.bool false) ∧ w' = w := by
  have t1 : decide ((h : Int) < 0) = false := decide_eq_false (by omega)
  have t2 : decide (n ≤ h) = false := decide_eq_false (by omega)
  have Ht := hid (And.intro t1 t2)
  clear t1 t2
  go_enter Try.func21, Try.ntmps21
  go_wp2
  go_ret
  refine ⟨?_, rfl⟩
  show Ending.returned (.bool (decide ((h : Int) < 0) || decide (n ≤ h))) = _
  rw [Ht.out.1, Ht.out.2]
  rfl
theorem idx_ok (ha : Option Addr) (hn hc n B : Nat) (hs : List Nat) (w : World) (hH : Rd w ha hn hc (vi hs)) (hhs : ∀ h ∈ hs, h < n) (hB : w.cell? ⟨B, 0, none⟩ = some (.int .i64 (n : Int))) (hhn : hn ≤ 100000) (hnn : n ≤ 100000) :
    Calls Try.prog 29 #[.slice ha hn hc, .func (.func 21) #[] #[.pointer (some ⟨B, 0, none⟩)]] w fun e w' => e = .returned (.int .i64 (-1)) ∧ w' = w := by
  have hhl : hs.length = hn := by have := hH.len; rwa [vi_len] at this
  have Hhl := hid hhl
  clear hhl
  go_enter Try.func29, Try.ntmps29
  go_wp2
  go_loopw [8] (fun i wr => ∃ j : Nat, j ≤ hn ∧ i = .int .i64 j ∧ wr = w) (fun i _ => hn - (intOf i).toNat)
  case atStart => exact ⟨0, by omega, rfl, rfl⟩
  case round =>
    obtain ⟨j, hj, rfl, rfl⟩ := hrel
    by_cases hlt : j < hn
    · obtain ⟨b, off, rfl, hbl, hcell⟩ := hH.celli j hlt
      have hx : nth hs j < n := hhs _ (by rw [nth_get (by rw [Hhl.out]; exact hlt)]; exact List.getElem_mem _)
      have hf := hole_fn (nth hs j) n B wr hB hx hnn
      generalize nth hs j = x at *
      go_wp2_with fail
      refine hf.mono ?_
      rintro e w' ⟨rfl, rfl⟩
      go_wp2
      go_roundw
      case rel => exact ⟨j + 1, by omega, by go_num, trivial⟩
      case measure => simp [intOf]; omega
    · obtain rfl : hn = j := by omega
      go_wp2
      go_ret
      exact ⟨rfl, rfl⟩
theorem has_ok (ha : Option Addr) (hn hc n B : Nat) (hs : List Nat) (w : World) (hH : Rd w ha hn hc (vi hs)) (hhs : ∀ h ∈ hs, h < n) (hB : w.cell? ⟨B, 0, none⟩ = some (.int .i64 (n : Int))) (hhn : hn ≤ 100000) (hnn : n ≤ 100000) :
    Calls Try.prog 20 #[.slice ha hn hc, .func (.func 21) #[] #[.pointer (some ⟨B, 0, none⟩)]] w fun e w' => e = .returned (.bool false) ∧ w' = w := by
  go_enter Try.func20, Try.ntmps20
  go_wp2_with fail
  refine (idx_ok ha hn hc n B hs w hH hhs hB hhn hnn).mono ?_
  rintro e w' ⟨rfl, rfl⟩
  go_wp2
  go_ret
  exact ⟨rfl, rfl⟩
theorem lawInt : Keyed Try.prog 3 := int_keyed Try.underlying3
theorem zeroInt (w : World) : (zeroValue 3).run Try.prog w = .ok (.int .i64 0) w := by kernel_rfl
theorem mem_take_succN (l : List Nat) (q : Nat) (h : q < l.length) (p : Nat) : (p ∈ l.take (q + 1)) ↔ (p ∈ l.take q ∨ p = nth l q) := by
  rw [take_snocN l q h, List.mem_append, List.mem_singleton]
theorem lit_wf (x : Nat) (h : x ≤ 100000) : (Lit.int .i64 (x : Int)).wf = true := by
  have h1 : IntKind.i64.min ≤ (x : Int) := Int.le_trans (show IntKind.i64.min ≤ 0 by decide) (by omega)
  have h2 : (x : Int) ≤ IntKind.i64.max := Int.le_trans (show (x : Int) ≤ 100000 by omega) (by decide)
  simp only [Lit.wf, Bool.and_eq_true, decide_eq_true_eq]
  exact ⟨h1, h2⟩
set_option maxRecDepth 100000 in
theorem held_ok (ha : Option Addr) (hn hc n : Nat) (hs : List Nat) (w : World) (hH : Rd w ha hn hc (vi hs)) (hhs : ∀ h ∈ hs, h < n) (nd : hs.Nodup) (hhn : hn ≤ 100000) (hnn : n ≤ 100000) :
    Calls Try.prog 11 #[.int .i64 (n : Int), .slice ha hn hc] w fun e w' => e = .returned (.int .i64 0) ∧ Below w.heap.size w w' := by
  have hmm := @run_makeMap Try.prog
  have hhl : hs.length = hn := by have := hH.len; rwa [vi_len] at this
  have Hhl := hid hhl
  clear hhl
  have b0 := below_alloc w (.cells #[.int .i64 (n : Int)] 3)
  have hB : (w.alloc (.cells #[.int .i64 (n : Int)] 3)).cell? ⟨w.heap.size, 0, none⟩ = some (.int .i64 (n : Int)) := by
    rw [cell_of_row _ _ _ _ _ _ (heap_alloc_new w _)]
    rfl
  have hs1 := has_ok ha hn hc n w.heap.size hs _ (hH.below b0) hhs hB hhn hnn
  go_enter Try.func11, Try.ntmps11
  go_wp2_with fail
  refine hs1.mono ?_
  rintro e w' ⟨rfl, rfl⟩
  obtain ⟨W1, hW1⟩ : ∃ W1, W1 = w.alloc (.cells #[.int .i64 (n : Int)] 3) := ⟨_, rfl⟩
  rw [← hW1] at b0 ⊢
  have hH1 := hH.below b0
  clear hB hs1 hW1
  go_wp2
  go_loopw [14] (fun i wr => ∃ (j : Nat) (D : DataW Unit), j ≤ hn ∧ i = .int .i64 j ∧ IsMap D ∧ Hid (∀ x : Nat, x ∉ hs.take j → D.atKey (.int .i64 (x : Int)) (.lit (.int .i64 0)) = .lit (.int .i64 0)) ∧
    wr.ownsMap Try.prog 3 (plainElem (H := Unit) Try.prog 3) W1.heap.size j D ∧ Below W1.heap.size W1 wr) (fun i _ => hn - (intOf i).toNat)
  case atStart => exact ⟨0, .map [], by omega, rfl, isMap_empty, fun x _ => rfl, World.ownsMap_made _ _ _ _, below_alloc _ _⟩
  case round =>
    obtain ⟨j, D, hj, rfl, hD, HD, hown, hBm⟩ := hrel
    by_cases hlt : j < hn
    · obtain ⟨b, off, rfl, hbl, hcell⟩ := (hH1.below hBm).celli j hlt
      have hjl : j < hs.length := by rw [Hhl.out]; exact hlt
      have hx : nth hs j < n := hhs _ (by rw [nth_get hjl]; exact List.getElem_mem _)
      have hnot : nth hs j ∉ hs.take j := fun hm => by
        have h1 := nd
        rw [← List.take_append_drop (j + 1) hs, take_snocN hs j hjl, List.append_assoc, List.nodup_append] at h1
        exact h1.2.2 _ hm _ (by simp) rfl
      have hz := HD.out _ hnot
      have hkey : keyOf Try.prog 3 (.int .i64 (nth hs j : Nat)) = some (.int .i64 (nth hs j : Nat)) := keyOf_int_mk Try.underlying3 (lit_wf _ (by omega))
      have Hmem := hid (mem_take_succN hs j hjl)
      have HD2 : Hid (∀ x : Nat, x ∉ hs.take (j + 1) → (D.put (.int .i64 (nth hs j : Nat)) (.lit (.int .i64 1))).atKey (.int .i64 (x : Int)) (.lit (.int .i64 0)) = .lit (.int .i64 0)) := fun x hx => by
        have h1 : ¬(x ∈ hs.take j ∨ x = nth hs j) := fun h => hx ((Hmem.out x).2 h)
        rw [atKey_put_other (fun e => h1 (.inr (by
          injection e with e1 e2
          exact Int.ofNat.inj e2)))]
        exact HD.out x (fun h => h1 (.inl h))
      have hD2 : IsMap (D.put (.int .i64 (nth hs j : Nat)) (.lit (.int .i64 1))) := hD.put _ _
      have hput : (D.put (.int .i64 (nth hs j : Nat)) (.lit (.int .i64 1))).atKey (.int .i64 (nth hs j : Nat)) (.lit (.int .i64 0)) = .lit (.int .i64 1) := atKey_put_same hD (k := .int .i64 (nth hs j : Nat)) (show WideAt.IsKeyLit (.int .i64 _) from trivial) _ _
      clear Hmem hnot HD
      have Hz := hid hz
      have Hput := hid hput
      clear hz hput
      generalize nth hs j = x at *
      go_wp2_with (at_lookup; refine wpList_lookup_own_int _ rfl _ _ 52 rfl 3 3 .i64 lawInt Try.underlying52 Try.underlying3 (zeroInt _) W1.heap.size j _ rfl hown _ _ rfl hkey ?_)
      intro c hat hwc
      rw [Hz.out] at hat
      injection hat with h1
      injection h1 with h2 h3
      subst h3
      clear hwc h2
      go_wp2_with (at_mapUpdate; refine wpList_mapUpdate_own _ rfl _ _ _ 52 rfl 3 3 lawInt Try.underlying52 _ W1.heap.size j _ rfl hown (by unfold maxLen; omega) _ _ _ rfl rfl hkey _ [] (plainElem_int (a := 1) Try.underlying3 (by decide)) ?_)
      intro w1 hown1 hgrow1
      have hBm2 := hBm.grown hgrow1 hBm.size (fun k e => by cases e; exact Nat.le_refl _)
      clear hown hgrow1
      go_wp2_with (at_lookup; refine wpList_lookup_own_int _ rfl _ _ 52 rfl 3 3 .i64 lawInt Try.underlying52 Try.underlying3 (zeroInt _) W1.heap.size (j + 1) _ rfl hown1 _ _ rfl hkey ?_)
      intro c hat hwc
      rw [Hput.out] at hat
      injection hat with h1
      injection h1 with h2 h3
      subst h3
      clear hwc h2
      go_wp2
      go_roundw
      case rel => exact ⟨j + 1, _, by omega, by go_num, hD2, HD2, hown1, hBm2⟩
      case measure => simp [intOf]; omega
    · obtain rfl : hn = j := by omega
      go_wp2
      go_ret
      exact ⟨rfl, b0.trans (hBm.mono b0.size)⟩
end Go.Proofs.Ytendgihkjibbaaa
