/- GuardLatches: the law counts the trips. -/
import Derived.Test.YtkgnelmnadnbhaaLawT5
namespace Go.Proofs.Ytkgnelmnadnbhaa
set_option linter.unusedVariables false
open Go.RowKit

theorem agesT_take (win i : Nat) (l : List Nat) (k : Nat) (hk : k < l.length) : (agesT win i (l.take (k + 1))).length = (agesT win i (l.take k)).length + if i - nth l k < win then 1 else 0 := by
  have e : l.take (k + 1) = l.take k ++ [nth l k] := by
    rw [List.take_add_one, List.getElem?_eq_getElem hk]
    unfold nth
    rw [List.getD_eq_getElem?_getD, List.getElem?_eq_getElem hk]
    rfl
  rw [e]
  unfold agesT
  rw [List.map_append, List.filter_append, List.length_append]
  congr 1
  by_cases h : i - nth l k < win <;> simp [h]
theorem agesT_len (win i : Nat) (l : List Nat) : (agesT win i l).length ≤ l.length := by
  unfold agesT
  have := List.length_filter_le (fun a => decide (a < win)) (l.map (fun t => i - t))
  rw [List.length_map] at this
  exact this
def CntI (C : Cx) (V N vb : Nat) (lv tv nv : Value) (quiet i : Nat) (why : Int) (wrong : Bool) (trips : List Nat) (W0 : World) (y : Nat → Value) (W : World) : Prop :=
  ∃ k : Nat, k ≤ trips.length ∧ SX C y V N vb lv tv nv quiet i C.n why wrong ∧ y 30 = .int .i64 ((agesT C.win i (trips.take k)).length : Nat) ∧ y 31 = .int .i64 (k : Int) ∧ Below W0.heap.size W0 W
set_option maxRecDepth 1000000 in
set_option maxHeartbeats 1000000 in
theorem law_cnt (C : Cx) (hC : C.Ok) (V N vb : Nat) (lv tv nv : Value) (quiet i : Nat) (why : Int) (wrong : Bool) (trips : List Nat) (W0 : World) (hi : i < 300) (ht : trips.length ≤ 3000) (hle : ∀ t ∈ trips, t ≤ i)
    (hg : W0.heap[C.H]? = some (.cells #[.slice (some ⟨C.gb, 0, none⟩) C.n C.cap, .int .i64 (C.sil : Int), .int .i64 (C.most : Int), .int .i64 (C.win : Int), .string C.nam] 27)) (ho : OwnAt W0 C.w0.heap.size 3 tv trips.length (vi trips)) :
    Tri Try.prog 332 (pieceOf Try.f3 [1, 1, 1, 1, 1, 1, 1, 1, 1, 1, 1, 0, 1, 0, 0, 1, 0, 0, 1, 1, 1, 1, 1, 1, 1, 1, 1, 0, 1]) (fun y w => SX C y V N vb lv tv nv quiet i C.n why wrong ∧ y 30 = .int .i64 0 ∧ y 31 = .int .i64 0 ∧ w = W0)
      (fun _ _ y w => SX C y V N vb lv tv nv quiet i C.n why wrong ∧ y 30 = .int .i64 ((agesT C.win i trips).length : Nat) ∧ Below W0.heap.size W0 w) := by
  rintro Q y w ⟨hS, h30, h31, rfl⟩ hQ
  have HQ := hid hQ
  obtain ⟨ta, tc, htv, htle, htmx⟩ := ho.form
  subst htv
  have Hg := hid hg
  have Hrd := hid ho.rd
  have Hle := hid hle
  have hw2 := hC.gg.w2
  clear hQ hg ho hle
  conv => arg 2; whnf
  obtain ⟨⟨s4, s11, s13, s15, s16, s17, s18, s19⟩, s20, s22, s23, s25, s26, s27⟩ := hS
  rw [fr332]
  simp only [s4, s11, s13, s15, s16, s17, s18, s19, s20, s22, s23, s25, s26, s27, h30, h31]
  clear s4 s11 s13 s15 s16 s17 s18 s19 s20 s22 s23 s25 s26 s27 h30 h31
  refine wp_block ?_
  refine wp_loop_fr 332 (CntI C V N vb lv (.slice ta trips.length tc) nv quiet i why wrong trips w) (fun y' _ => trips.length - (intOf (y' 31)).toNat)
    ⟨rfl, rfl, 0, Nat.zero_le _, ⟨⟨rfl, rfl, rfl, rfl, rfl, rfl, rfl, rfl⟩, rfl, rfl, rfl, rfl, rfl, rfl⟩, rfl, rfl, Below.refl _ _⟩ ?_
  rintro z W ⟨k, hk, ⟨⟨s4, s11, s13, s15, s16, s17, s18, s19⟩, s20, s22, s23, s25, s26, s27⟩, s30, s31, hB⟩
  rw [fr332]
  simp only [s4, s11, s13, s15, s16, s17, s18, s19, s20, s22, s23, s25, s26, s27, s30, s31]
  clear s4 s11 s13 s15 s16 s17 s18 s19 s20 s22 s23 s25 s26 s27 s30 s31
  by_cases hlt : k < trips.length
  · have htk := hid (agesT_take C.win i trips k hlt)
    have hl0 := agesT_len C.win i (trips.take k)
    rw [List.length_take] at hl0
    obtain ⟨bb, off, rfl, hbl, hc⟩ := (Hrd.out.below hB).ati k hlt
    have hti : nth trips k ≤ i := Hle.out _ (by
      unfold nth
      rw [List.getD_eq_getElem?_getD, List.getElem?_eq_getElem hlt]
      exact List.getElem_mem hlt)
    have hgW := row_below Hg.out hB
    have e1 : ∀ w', Below W.heap.size W.drew w' → w'.cell? ⟨bb, off + k, none⟩ = some (.int .i64 (nth trips k : Nat)) := fun w' h => (((Below.refl _ W).drew.trans h).cell (p := ⟨bb, off + k, none⟩) hbl).trans hc
    have e2 : ∀ w', Below W.heap.size W.drew w' → w'.cell? ⟨C.H, 3, none⟩ = some (.int .i64 (C.win : Int)) := fun w' h => by rw [cell_of_row _ _ _ _ _ _ (row_below hgW ((Below.refl _ W).drew.trans h))]; rfl
    have hBd := hid (hB.trans ((Below.refl W.heap.size W).drew.mono hB.size))
    generalize hqL : (agesT C.win i (trips.take (k + 1))).length = c1 at *
    have HqL := hid hqL
    generalize (agesT C.win i (trips.take k)).length = c0 at *
    generalize nth trips k = t at *
    obtain ⟨x, hx⟩ : ∃ x, x = i - t := ⟨_, rfl⟩
    have hsub : (i : Int) - (t : Int) = (x : Int) := by omega
    have hwr : IntKind.i64.wrap (x : Int) = (x : Int) := IntWalk.i64_in _ (by omega)
    rw [← hx] at htk
    have Hx := hid hx
    clear hqL hx hc hgW hB
    go_upto_region 48 with (fail)
    refine wp_region_can_all [] [0, 1, 2, 3, 4, 5, 6, 7, 8] (Below W.heap.size) (fun _ => Below.refl _ _) (fun _ _ _ h k => h.trans k) (by kernel_rfl) (by kernel_rfl) ?_
    simp only [List.map_cons, List.map_nil, List.contains_nil, List.getD_cons_zero, List.getD_cons_succ]
    generalize W.drew = U at *
    by_cases hxw : x < C.win
    · have d1 : decide ((x : Int) < (C.win : Int)) = true := decide_eq_true (by omega)
      have d2 : decide (x < C.win) = true := decide_eq_true hxw
      have hc1 : Hid (c1 = c0 + 1) := by unfold Hid; rw [htk.out, if_pos hxw]
      clear hxw
      repeat (refine wpL_do rfl (fun w' hw' => (by go_simp; rfl)) ?_; simp only [Act.put, List.setIfInBounds_toArray, List.set_cons_succ, List.set_cons_zero])
      refine wpL_nil ?_
      clear hwr hsub e1 e2
      go_wp2_with fail
      refine ⟨rfl, rfl, ⟨k + 1, by omega, ⟨⟨rfl, rfl, rfl, rfl, rfl, rfl, rfl, rfl⟩, rfl, rfl, rfl, rfl, rfl, rfl⟩, ?_, ?_, hBd.out⟩, ?_⟩
      · rw [HqL.out, hc1.out]
        show Value.int .i64 _ = Value.int .i64 _
        go_num
      · show Value.int .i64 _ = Value.int .i64 _
        go_num
      · show trips.length - (intOf (Value.int .i64 _)).toNat < _
        simp [intOf]
        omega
    · have d1 : decide ((x : Int) < (C.win : Int)) = false := decide_eq_false (by omega)
      have d2 : decide (x < C.win) = false := decide_eq_false hxw
      have hc1 : Hid (c1 = c0) := by unfold Hid; rw [htk.out, if_neg hxw]; rfl
      clear hxw
      repeat (refine wpL_do rfl (fun w' hw' => (by go_simp; rfl)) ?_; simp only [Act.put, List.setIfInBounds_toArray, List.set_cons_succ, List.set_cons_zero])
      refine wpL_nil ?_
      clear hwr hsub e1 e2
      go_wp2_with fail
      refine ⟨rfl, rfl, ⟨k + 1, by omega, ⟨⟨rfl, rfl, rfl, rfl, rfl, rfl, rfl, rfl⟩, rfl, rfl, rfl, rfl, rfl, rfl⟩, ?_, ?_, hBd.out⟩, ?_⟩
      · rw [HqL.out, hc1.out]
        rfl
      · show Value.int .i64 _ = Value.int .i64 _
        go_num
      · show trips.length - (intOf (Value.int .i64 _)).toNat < _
        simp [intOf]
        omega
  · obtain rfl : k = trips.length := by omega
    rw [List.take_length]
    have HB := hid hB
    clear hB
    generalize (agesT C.win i trips).length = c0 at *
    go_wp2_with fail
    exact q_fr (N := 332) HQ.out rfl ⟨⟨⟨rfl, rfl, rfl, rfl, rfl, rfl, rfl, rfl⟩, rfl, rfl, rfl, rfl, rfl, rfl⟩, rfl, HB.out⟩
end Go.Proofs.Ytkgnelmnadnbhaa
