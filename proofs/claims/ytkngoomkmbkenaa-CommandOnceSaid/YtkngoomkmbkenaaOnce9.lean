/- A hand hears a status. -/
import Derived.Test.YtkngoomkmbkenaaOnce8
import Derived.Test.YtkngoomkmbkenaaOnce3
namespace Go.Proofs.Ytkngoomkmbkenaa
set_option linter.unusedVariables false
open Go.RowKit

set_option maxRecDepth 100000 in
theorem run_cut34 (b off n c k : Nat) (hk : k ≤ n) (w : World) : (Instr.sliceAt 34 (.slice (some ⟨b, off, none⟩) n c) (some (.int .i64 (k : Int))) none none).run Try.prog w = .ok (.slice (some ⟨b, if c = k then off else off + k, none⟩) (n - k) (c - k)) w := by
  have e1 : (k : Int) ≤ n := by omega
  simp [go_sem, e1]
  split <;> rfl
set_option maxRecDepth 100000 in
theorem run_cut34n (w : World) : (Instr.sliceAt 34 (.slice none 0 0) (some (.int .i64 0)) none none).run Try.prog w = .ok (.slice none 0 0) w := by
  simp [go_sem]
theorem and255h (n : Nat) (h : n ≤ 256) : bits .and .i64 ((n : Int)) 255 = ((n % 256 : Nat) : Int) := by
  have h1 := i64_and_nat n 255 (by omega) (by decide)
  rw [show (255 : Nat) = 2 ^ 8 - 1 by decide, Nat.and_two_pow_sub_one_eq_mod] at h1
  exact h1
/-- the rows when some of them are known to be there -/
theorem cut_sent {W : World} {B : Nat} {x : WS} (h : RO W B x) (t : Nat) (ht : t ≤ x.sn) : ∃ sa sc, (∀ w, (Instr.sliceAt 34 (.slice x.sa x.sn x.sc) (some (.int .i64 (t : Int))) none none).run Try.prog w = .ok (.slice sa (x.sn - t) sc) w) ∧ RO W B { x with sa := sa, sn := x.sn - t, sc := sc, Rs := x.Rs.drop t } := by
  have hrow : rcs (x.Rs.drop t) = (rcs x.Rs).drop t := by unfold rcs; rw [List.map_drop]
  have hsr : RR W B (x.Rs.drop t) := fun r hr => h.sr r (List.mem_of_mem_drop hr)
  have hso := h.so
  unfold WS.sv at hso
  cases hsa : x.sa with
  | none =>
    rw [hsa] at hso
    rcases hso.2 with ⟨h1, h2⟩ | ⟨g, o, cap, cur, h1, _⟩
    · have h0 : t = 0 := by omega
      subst h0
      have hsc : x.sc = 0 := by injection h1
      refine ⟨none, 0, fun w => by rw [h2, hsc]; exact run_cut34n w, ?_⟩
      have hR : x.Rs.drop 0 = x.Rs := List.drop_zero
      rw [hR, Nat.sub_zero]
      have e : ({ x with sa := none, sn := x.sn, sc := 0, Rs := x.Rs } : WS) = x := by
        obtain ⟨a1, a2, a3, a4, a5, a6, a7, a8, a9, a10, a11, a12, a13, a14, a15, a16, a17, a18, a19, a20, a21⟩ := x
        dsimp only at hsa hsc
        subst hsa hsc
        rfl
      rw [e]
      exact h
    · cases h1
  | some a =>
    rw [hsa] at hso
    obtain ⟨b, o, fr⟩ := a
    have hfr : fr = none := by
      rcases hso.2 with ⟨h1, _⟩ | ⟨g, o', cap, cur, h1, _⟩
      · cases h1
      · cases h1; rfl
    subst hfr
    refine ⟨some ⟨b, if x.sc = t then o else o + t, none⟩, x.sc - t, fun w => run_cut34 b o x.sn x.sc t ht w, ?_⟩
    have hd := hso.drop t ht
    have hob : (Value.slice (some ⟨b, if x.sc = t then o else o + t, none⟩) (x.sn - t) (x.sc - t)).ownBlock = x.sv.ownBlock := by unfold WS.sv; rw [hsa]; rfl
    refine ⟨by rw [hrow]; exact hd, h.qo, h.go, hsr, h.qr, h.gr, fun k hk => h.sq k (by rw [← hob]; exact hk), fun k hk => h.sg k (by rw [← hob]; exact hk), h.qg⟩
def thereW (x : WS) (dr : Nat) : Nat := dr - (x.N - x.sn)
structure HeaR (W0 W : World) (X B : Nat) (x : WS) (t : Nat) (e : Ending) : Prop where
  ex : ∃ sa sc, e = .returned (.bool true) ∧ XM W X B { x with sa := sa, sn := x.sn - t, sc := sc, Rs := x.Rs.drop t, tm := if 0 < t then 0 else x.tm, tr := if 0 < t then 0 else x.tr }
  blw : Below B W0 W
set_option maxRecDepth 1000000 in
set_option maxHeartbeats 8000000 in
theorem hea_ok (X B : Nat) (x : WS) (dr t : Nat) (wa ag : Bool) (w : World) (h : XM w X B x) (hB : B ≤ X) (h1 : x.N ≤ 100) (h2 : x.sn ≤ x.N) (h3 : x.N - x.sn ≤ dr) (h4 : dr ≤ x.N) (ht : t = dr - (x.N - x.sn)) :
    Calls Try.prog 36 #[.pointer (some ⟨X, 0, none⟩), .agg #[.int .i64 0, .int .i64 (dr : Int), .int .i64 0, .bool false, .bool wa, .bool ag, .int .i64 0]] w fun e w' => HeaR w w' X B x t e := by
  have hXl := row_lt h.bx
  have A := heap_alloc_new w (.cells #[.int .i64 0, .int .i64 (dr : Int), .int .i64 0, .bool false, .bool wa, .bool ag, .int .i64 0] 25)
  have BA := below_alloc w (.cells #[.int .i64 0, .int .i64 (dr : Int), .int .i64 0, .bool false, .bool wa, .bool ag, .int .i64 0] 25)
  have H1 := hid (h.below BA)
  have B1 := hid (BA.mono (Nat.le_trans hB (Nat.le_of_lt hXl)))
  obtain ⟨D, hD⟩ : ∃ D, D = w.heap.size := ⟨_, rfl⟩
  rw [← hD] at A
  have HA := hid A
  have HD := hid hD
  clear A BA h hD hXl
  have htn : t ≤ x.sn := by omega
  have ht100 : t ≤ 100 := by omega
  have a1 : (dr : Int) - (x.N : Int) + (x.sn : Int) = (t : Int) := by omega
  have a2 : IntKind.i64.wrap ((dr : Int) - (x.N : Int)) = (dr : Int) - (x.N : Int) := IntWalk.i64_in _ (by omega)
  have a3 : IntKind.i64.wrap (t : Int) = (t : Int) := IntWalk.i64_in _ (by omega)
  have a4 := and255h t (by omega)
  rw [Nat.mod_eq_of_lt (by omega)] at a4
  clear ht
  go_enter Try.func36, Try.ntmps36
  refine wp_seq_k (fun K0 hK0 => ?_)
  go_wp2_with fail
  rw [← HD.out]
  refine hK0.out _ _ ?_
  generalize w.alloc (.cells #[.int .i64 0, .int .i64 (dr : Int), .int .i64 0, .bool false, .bool wa, .bool ag, .int .i64 0] 25) = V at *
  refine wp_seq_k (fun K1 hK1 => ?_)
  refine wp_region_can_all [] [0, 1, 2, 3, 4, 5, 6, 7, 8, 9, 10, 11, 12, 13, 14, 15, 16] (fun u u' => u' = u) (fun u => rfl) (fun _ _ _ h k => k.trans h) (by kernel_rfl) (by kernel_rfl) ?_
  simp only [List.map_cons, List.map_nil, List.contains_nil, List.getD_cons_zero, List.getD_cons_succ]
  have H2 := hid (H1.out.below ((Below.refl _ V).drew))
  have B2 := hid (B1.out.trans ((Below.refl B V).drew))
  have HA2 : Hid (V.drew.heap[D]? = _) := HA
  clear H1 B1 HA
  generalize V.drew = U at *
  have q1 : ∀ w', w' = U → w'.cell? ⟨D, 1, none⟩ = some (.int .i64 (dr : Int)) := fun w' h => by rw [h, cell_of_row _ _ _ _ _ _ HA2.out]; rfl
  have x1 : ∀ w', w' = U → w'.cell? ⟨X, 1, none⟩ = some (.int .i64 (x.N : Int)) := fun w' h => by rw [h, cell_of_row _ _ _ _ _ _ H2.out.bx]; rfl
  have x3 : ∀ w', w' = U → w'.cell? ⟨X, 3, none⟩ = some (.slice x.sa x.sn x.sc) := fun w' h => by rw [h, cell_of_row _ _ _ _ _ _ H2.out.bx]; rfl
  iterate 17 (refine wpL_do rfl (fun w' hw' => (by go_simp; rfl)) ?_; simp only [Act.put, List.setIfInBounds_toArray, List.set_cons_succ, List.set_cons_zero])
  refine wpL_nil ?_
  refine hK1.out _ _ ?_
  clear q1 x1 x3 a1 a2 a3 a4
  obtain ⟨sa, sc, hcut, hro⟩ := cut_sent H2.out.ro t htn
  have x3 : U.cell? ⟨X, 3, none⟩ = some (.slice x.sa x.sn x.sc) := by rw [cell_of_row _ _ _ _ _ _ H2.out.bx]; rfl
  have fz := frozen_row H2.out.bx 3
  have d1 : decide ((x.sn : Int) < (t : Int)) = false := decide_eq_false (by omega)
  have d2 : decide ((t : Int) > (x.sn : Int)) = false := decide_eq_false (by omega)
  have d3 : decide (x.sn < t) = false := decide_eq_false (by omega)
  refine wp_seq_k (fun K2 hK2 => ?_)
  go_wp2_with fail
  refine hK2.out _ _ ?_
  clear d1 d2 d3
  obtain ⟨s1, s2⟩ := set_row (cs' := WS.cells { x with sa := sa, sn := x.sn - t, sc := sc, Rs := x.Rs.drop t }) H2.out.bx 3 (.slice sa (x.sn - t) sc) rfl
  have H3 := hid (H2.out.set s2 s1 hro)
  have B3 := hid (B2.out.grown s2 (Nat.le_trans hB (Nat.le_of_lt (row_lt H2.out.bx))) (fun k e => by cases e; exact hB))
  have HA3 := hid (row_grown HA2.out s2 (ne_tt HA2.out H2.out.bx (by decide)))
  clear s1 s2 hro
  refine wp_seq_k (fun K3 hK3 => ?_)
  go_wp2_with fail
  refine hK3.out _ _ ?_
  clear x3 fz hcut
  have hsub : x.sn - t = x.sn - t := rfl
  generalize U.setCell ⟨X, 3, none⟩ (.slice sa (x.sn - t) sc) = Y at *
  clear H2 B2 HA2
  by_cases h0 : 0 < t
  · have d1 : decide ((0 : Int) < (t : Int)) = true := decide_eq_true (by omega)
    have d2 : decide ((t : Int) > 0) = true := decide_eq_true (by omega)
    have d3 : decide (0 < t) = true := decide_eq_true h0
    have x5 : Y.cell? ⟨X, 5, none⟩ = some (.int .i64 (x.tm : Int)) := by rw [cell_of_row _ _ _ _ _ _ H3.out.bx]; rfl
    have x7 : Y.cell? ⟨X, 7, none⟩ = some (.int .i64 (x.tr : Int)) := by rw [cell_of_row _ _ _ _ _ _ H3.out.bx]; rfl
    have fz := frozen_row H3.out.bx
    obtain ⟨s1, s2⟩ := set_row (cs' := WS.cells { x with sa := sa, sn := x.sn - t, sc := sc, Rs := x.Rs.drop t, tm := 0 }) H3.out.bx 5 (.int .i64 0) rfl
    obtain ⟨s3, s4⟩ := set_row (cs' := WS.cells { x with sa := sa, sn := x.sn - t, sc := sc, Rs := x.Rs.drop t, tm := 0, tr := 0 }) s1 7 (.int .i64 0) rfl
    have s5 := grownBy_trans s2 s4
    have H4 := hid (H3.out.set (x' := { x with sa := sa, sn := x.sn - t, sc := sc, Rs := x.Rs.drop t, tm := 0, tr := 0 }) s5 s3 ⟨H3.out.ro.so, H3.out.ro.qo, H3.out.ro.go, H3.out.ro.sr, H3.out.ro.qr, H3.out.ro.gr, H3.out.ro.sq, H3.out.ro.sg, H3.out.ro.qg⟩)
    have B4 := hid (B3.out.grown s5 (Nat.le_trans hB (Nat.le_of_lt (row_lt H3.out.bx))) (fun k e => by cases e; exact hB))
    have HA4 := hid (row_grown HA3.out s5 (ne_tt HA3.out H3.out.bx (by decide)))
    clear s1 s2 s3 s4 s5
    refine wp_seq_k (fun K4 hK4 => ?_)
    go_wp2_with fail
    refine hK4.out _ _ ?_
    clear x5 x7 fz
    generalize (Y.setCell ⟨X, 5, none⟩ (.int .i64 0)).setCell ⟨X, 7, none⟩ (.int .i64 0) = Z at *
    have q3 : Z.cell? ⟨D, 3, none⟩ = some (.bool false) := by rw [cell_of_row _ _ _ _ _ _ HA4.out]; rfl
    go_wp2_with fail
    go_ret
    refine ⟨⟨sa, sc, rfl, ?_⟩, B4.out⟩
    rw [if_pos h0, if_pos h0]
    exact H4.out
  · have d1 : decide ((0 : Int) < (t : Int)) = false := decide_eq_false (by omega)
    have d2 : decide ((t : Int) > 0) = false := decide_eq_false (by omega)
    have d3 : decide (0 < t) = false := decide_eq_false h0
    have q3 : Y.cell? ⟨D, 3, none⟩ = some (.bool false) := by rw [cell_of_row _ _ _ _ _ _ HA3.out]; rfl
    go_wp2_with fail
    go_ret
    refine ⟨⟨sa, sc, rfl, ?_⟩, B3.out⟩
    rw [if_neg h0, if_neg h0]
    exact H3.out
end Go.Proofs.Ytkngoomkmbkenaa
/- What was sent is sent once more: the loop. -/
namespace Go.Proofs.Ytkngoomkmbkenaa
set_option linter.unusedVariables false
open Go.RowKit

set_option maxRecDepth 1000000 in
theorem fr103 (y : Nat → Value) : fr 103 y = #[y 0, y 1, y 2, y 3, y 4, y 5, y 6, y 7, y 8, y 9, y 10, y 11, y 12, y 13, y 14, y 15, y 16, y 17, y 18, y 19, y 20, y 21, y 22, y 23, y 24, y 25, y 26, y 27, y 28, y 29, y 30, y 31, y 32, y 33, y 34, y 35, y 36, y 37, y 38, y 39, y 40, y 41, y 42, y 43, y 44, y 45, y 46, y 47, y 48, y 49, y 50, y 51, y 52, y 53, y 54, y 55, y 56, y 57, y 58, y 59, y 60, y 61, y 62, y 63, y 64, y 65, y 66, y 67, y 68, y 69, y 70, y 71, y 72, y 73, y 74, y 75, y 76, y 77, y 78, y 79, y 80, y 81, y 82, y 83, y 84, y 85, y 86, y 87, y 88, y 89, y 90, y 91, y 92, y 93, y 94, y 95, y 96, y 97, y 98, y 99, y 100, y 101, y 102] := rfl
/-- cells 1 and 3 of a block stay -/
def K13 (X : Nat) (u u' : World) : Prop := u'.cell? ⟨X, 1, none⟩ = u.cell? ⟨X, 1, none⟩ ∧ u'.cell? ⟨X, 3, none⟩ = u.cell? ⟨X, 3, none⟩
theorem K13.refl (X : Nat) (u : World) : K13 X u u := ⟨rfl, rfl⟩
theorem K13.trans (X : Nat) (u v w : World) (h : K13 X u v) (k : K13 X v w) : K13 X u w := ⟨k.1.trans h.1, k.2.trans h.2⟩
def ones (l : List Nat) : List (List Nat) := l.map fun i => [i]
def cmds (l : List Nat) : List (List Nat) := l.map cmdB
theorem conts_append (R S : List RB) : conts (R ++ S) = conts R ++ conts S := by unfold conts; rw [List.map_append]
theorem cmds_snoc (b k : Nat) : cmds (List.range' b (k + 1)) = cmds (List.range' b k) ++ [cmdB (b + k)] := by
  unfold cmds
  rw [List.range'_concat, List.map_append, Nat.one_mul]
  rfl
theorem ones_at {R : List RB} {b n k : Nat} (h : conts R = ones (List.range' b n)) (hk : k < n) {r : RB} (hr : R[k]? = some r) : r.2 = [b + k] := by
  have h1 : (conts R)[k]? = some r.2 := by unfold conts; rw [List.getElem?_map, hr]; rfl
  rw [h] at h1
  unfold ones at h1
  rw [List.getElem?_map, List.getElem?_range' hk, Nat.one_mul] at h1
  exact (Option.some.inj h1).symm
def LaI (W0 : World) (X B b : Nat) (x : WS) (y : Nat → Value) (W : World) : Prop :=
  ∃ (k : Nat) (ga : Option Addr) (gc : Nat) (Rg : List RB), k ≤ x.sn ∧ y 0 = .pointer (some ⟨X, 0, none⟩) ∧ y 76 = .slice x.sa x.sn x.sc ∧ y 77 = .int .i64 (x.sn : Int) ∧ y 78 = .int .i64 (k : Int) ∧
    XM W X B { x with ga := ga, gn := x.gn + k, gc := gc, Rg := Rg } ∧ conts Rg = conts x.Rg ++ cmds (List.range' b k) ∧ Below B W0 W
set_option maxRecDepth 1000000 in
set_option maxHeartbeats 8000000 in
theorem late_l (X B b : Nat) (x : WS) (hB : B ≤ X) (hN : x.N ≤ 100) (hb : x.N = b + x.sn) (hgn : x.gn ≤ 50000) (hR : conts x.Rs = ones (List.range' b x.sn)) :
    Tri Try.prog 103 (pieceOf Try.f37 [1, 1, 1, 1, 1, 1, 0]) (fun y w => y 0 = .pointer (some ⟨X, 0, none⟩) ∧ XM w X B x)
      (fun y w y' w' => y' 0 = .pointer (some ⟨X, 0, none⟩) ∧ Below B w w' ∧ ∃ ga gc Rg, XM w' X B { x with ga := ga, gn := x.gn + x.sn, gc := gc, Rg := Rg } ∧ conts Rg = conts x.Rg ++ cmds (List.range' b x.sn)) := by
  rintro Q y w ⟨s0, hM⟩ hQ
  have HQ := hid hQ
  have HM := hid hM
  have HR := hid hR
  have Hb := hid hb
  have x3 : w.cell? ⟨X, 3, none⟩ = some (.slice x.sa x.sn x.sc) := by rw [cell_of_row _ _ _ _ _ _ hM.bx]; rfl
  have hsb : x.sn ≤ 100 ∧ b ≤ 100 := by omega
  clear hQ hM hR hb
  conv => arg 2; whnf
  refine wp_seq_k (fun K0 hK0 => ?_)
  rw [fr103]
  simp only [s0]
  clear s0
  go_wp2_with fail
  refine hK0.out _ _ ?_
  clear x3
  refine wp_block ?_
  refine wp_loop_fr 103 (LaI w X B b x) (fun y' _ => x.sn - (intOf (y' 78)).toNat) ⟨rfl, rfl, 0, x.ga, x.gc, x.Rg, Nat.zero_le _, rfl, rfl, rfl, rfl, HM.out, (by show _ = conts x.Rg ++ []; rw [List.append_nil]), Below.refl _ _⟩ ?_
  clear HM
  rintro z W ⟨k, ga, gc, Rg, hk, s0, s76, s77, s78, hM, hco, hbl⟩
  have HM := hid hM
  have HCo := hid hco
  have HB := hid hbl
  clear hM hco hbl
  rw [fr103]
  simp only [s0, s76, s77, s78]
  clear s0 s76 s77 s78
  obtain ⟨sn, hsn⟩ : ∃ sn, sn = x.sn := ⟨_, rfl⟩
  rw [← hsn] at hk hsb ⊢
  have Hsn := hid hsn
  clear hsn
  by_cases hlt : k < sn
  · have d1 : decide ((k : Int) < (sn : Int)) = true := decide_eq_true (by omega)
    have hkI : (k : Int) < (sn : Int) := by omega
    have hsp := HM.out.ro.sp
    obtain ⟨g, o, hsa, hgl, r, hr1, hr2, hr3, hr4⟩ := pk_at hsp k (by rw [← Hsn.out]; exact hlt)
    dsimp only at hsa hr1 hr2
    have hr5 := ones_at HR.out (by rw [← Hsn.out]; exact hlt) hr1
    obtain ⟨⟨ra, rn, rc⟩, bs⟩ := r
    dsimp only at hr3 hr4 hr5
    subst hr5
    have hrn : rn = 1 := by have := hr4.rd.len; rw [vb_len] at this; exact this.symm
    subst hrn
    have Hr4 := hid hr4
    have Hsa := hid hsa
    rw [hsa]
    have d0 := and255h (b + k) (by omega)
    rw [Nat.mod_eq_of_lt (by omega)] at d0
    have a1 : (x.N : Int) - (sn : Int) + (k : Int) = ((b + k : Nat) : Int) := by have := Hb.out; have := Hsn.out; omega
    have a2 : IntKind.i64.wrap ((x.N : Int) - (sn : Int)) = (x.N : Int) - (sn : Int) := IntWalk.i64_in _ (by omega)
    have a3 : IntKind.i64.wrap ((b + k : Nat) : Int) = ((b + k : Nat) : Int) := IntWalk.i64_in _ (by omega)
    obtain ⟨d, hd⟩ : ∃ d, d = b + k := ⟨_, rfl⟩
    rw [← hd] at d0 a1 a3 Hr4
    have hd100 : d ≤ 100 := by have := Hb.out; have := Hsn.out; omega
    have Hd := hid hd
    clear hsp hr1 hr2 hr4 hsa hd
    go_upto_block 1 with (fail)
    refine wp_block ?_
    refine wp_seq_k (fun K1 hK1 => ?_)
    go_wp2_with fail
    refine hK1.out _ _ ?_
    clear hr3
    refine wp_region_can_all [18] [0, 1, 2, 3, 4, 5, 6, 7, 8, 9, 10, 11, 12, 13, 14, 15, 16, 17, 18] (K13 X) (K13.refl X) (K13.trans X) (by kernel_rfl) (by kernel_rfl) ?_
    simp only [List.map_cons, List.map_nil, List.contains_cons, List.contains_nil, List.getD_cons_zero, List.getD_cons_succ, Nat.reduceBEq, Bool.or_false]
    have HM2 := hid (HM.out.below ((Below.refl _ W).drew))
    have HB2 := hid (HB.out.trans ((Below.refl B W).drew))
    have Hr5 := hid (Hr4.out.below ((Below.refl _ W).drew))
    clear HM HB Hr4
    generalize W.drew = U at *
    have e1 : U.cell? ⟨X, 1, none⟩ = some (.int .i64 (x.N : Int)) := by rw [cell_of_row _ _ _ _ _ _ HM2.out.bx]; rfl
    have e3 : U.cell? ⟨X, 3, none⟩ = some (.slice (some ⟨g, o, none⟩) sn x.sc) := by rw [cell_of_row _ _ _ _ _ _ HM2.out.bx, ← Hsa.out, Hsn.out]; rfl
    have x1 : ∀ w', K13 X U w' → w'.cell? ⟨X, 1, none⟩ = some (.int .i64 (x.N : Int)) := fun w' h => h.1.trans e1
    have x3 : ∀ w', K13 X U w' → w'.cell? ⟨X, 3, none⟩ = some (.slice (some ⟨g, o, none⟩) sn x.sc) := fun w' h => h.2.trans e3
    iterate 18 (refine wpL_do rfl (fun w' hw' => (by go_simp; rfl)) ?_; simp only [Act.put, List.setIfInBounds_toArray, List.set_cons_succ, List.set_cons_zero])
    clear x1 x3 a1 a2 a3 d0
    have hsnd := hid (snd_ok X B { x with ga := ga, gn := x.gn + k, gc := gc, Rg := Rg } d ra rc U HM2.out Hr5.out hd100 (by show x.gn + k ≤ _; omega) hB)
    refine wpL_call rfl (fun K hK => ?_)
    go_wp2_with fail
    refine hsnd.out.mono ?_
    rintro e V ⟨⟨ga2, gc2, ea, ec, rfl, hM3⟩, hb3⟩
    have f1 : V.cell? ⟨X, 1, none⟩ = some (.int .i64 (x.N : Int)) := by rw [cell_of_row _ _ _ _ _ _ hM3.bx]; rfl
    have f3 : V.cell? ⟨X, 3, none⟩ = some (.slice (some ⟨g, o, none⟩) sn x.sc) := by rw [cell_of_row _ _ _ _ _ _ hM3.bx, ← Hsa.out, Hsn.out]; rfl
    refine hK _ _ ⟨f1.trans e1.symm, f3.trans e3.symm⟩ ?_
    have HM3 := hid hM3
    have HB3 := hid (HB2.out.trans hb3)
    clear hK K hM3 hb3 hsnd HM2 HB2 Hr5 e1 e3 f1 f3
    try simp only [Act.put, List.setIfInBounds_toArray, List.set_cons_succ, List.set_cons_zero]
    refine wpL_nil ?_
    have hco2 : conts (Rg ++ [((ea, 8, ec), cmdB d)]) = conts x.Rg ++ cmds (List.range' b (k + 1)) := by
      rw [conts_append, HCo.out, cmds_snoc, ← Hd.out, List.append_assoc]
      rfl
    have HCo2 := hid hco2
    clear hco2
    go_wp2_with fail
    refine ⟨rfl, rfl, ⟨k + 1, ga2, gc2, _, by rw [← Hsn.out]; omega, rfl, ?_, ?_, ?_, HM3.out, HCo2.out, HB3.out⟩, ?_⟩
    · rw [Hsa.out, ← Hsn.out]; rfl
    · rw [← Hsn.out]; rfl
    · show Value.int .i64 _ = Value.int .i64 _
      go_num
    · show sn - (intOf (Value.int .i64 _)).toNat < _
      simp [intOf]
      omega
  · obtain rfl : k = sn := by omega
    have d1 : decide ((k : Int) < (k : Int)) = false := decide_eq_false (by omega)
    have HM2 := HM.out
    have HC2 := HCo.out
    rw [Hsn.out] at HM2 HC2
    have HM3 := hid HM2
    have HC3 := hid HC2
    clear HM2 HC2 HM HCo
    go_wp2_with fail
    exact q_fr (N := 103) HQ.out rfl ⟨rfl, HB.out, ga, gc, Rg, HM3.out, HC3.out⟩
end Go.Proofs.Ytkngoomkmbkenaa
/- What was sent is sent once more, if it has to be: late. -/
namespace Go.Proofs.Ytkngoomkmbkenaa
set_option linter.unusedVariables false
open Go.RowKit

theorem use_fr {P : Program} {N : Nat} {c : Code} {Q : Exit → Act → World → Prop} {t : Array Value} {w : World} (hs : t.size = N) (h : Code.wp P c Q ⟨fr N (fun i => t.getD i undef), []⟩ w) : Code.wp P c Q ⟨t, []⟩ w := by
  rw [fr_of hs]
  exact h
theorem q_frX {N : Nat} {Q : Exit → Act → World → Prop} {e : Exit} {Post : (Nat → Value) → World → Prop} {t : Array Value} {w : World} (hq : ∀ y' w', Post y' w' → Q e ⟨fr N y', []⟩ w') (hs : t.size = N) (hp : Post (fun i => t.getD i undef) w) : Q e ⟨t, []⟩ w := by
  rw [fr_of hs]
  exact hq _ w hp
structure LO where
  tm : Nat
  si : Nat
  tr : Nat
  ha : Nat
  go : Bool
  rs : Bool
def lateO (x : WS) (wi : Bool) : LO :=
  if x.sn = 0 then ⟨0, x.si, x.tr, x.ha, true, false⟩
  else if wi = false ∧ x.tm + 1 < x.pt then ⟨x.tm + 1, x.si, x.tr, x.ha, true, false⟩
  else if x.tr = 100 then ⟨0, 0, x.tr, 19, false, false⟩
  else ⟨0, 0, x.tr + 1, x.ha, true, true⟩
structure LatS (W0 W : World) (X B b : Nat) (x : WS) (o : LO) : Prop where
  ex : ∃ ga gn gc Rg, XM W X B { x with tm := o.tm, si := o.si, tr := o.tr, ha := o.ha, ga := ga, gn := gn, gc := gc, Rg := Rg } ∧ conts Rg = conts x.Rg ++ (if o.rs = true then cmds (List.range' b x.sn) else []) ∧ gn = x.gn + (if o.rs = true then x.sn else 0)
  blw : Below B W0 W
theorem XM.same {W : World} {X B : Nat} {x x' : WS} (h : RO W B x) (e1 : x'.sv = x.sv) (e2 : x'.qv = x.qv) (e3 : x'.gv = x.gv) (e4 : x'.sn = x.sn) (e5 : x'.qn = x.qn) (e6 : x'.gn = x.gn) (e7 : x'.Rs = x.Rs) (e8 : x'.Rq = x.Rq) (e9 : x'.Rg = x.Rg) : RO W B x' :=
  ⟨by rw [e1, e4, e7]; exact h.so, by rw [e2, e5, e8]; exact h.qo, by rw [e3, e6, e9]; exact h.go, by rw [e7]; exact h.sr, by rw [e8]; exact h.qr, by rw [e9]; exact h.gr, by rw [e1, e2]; exact h.sq, by rw [e1, e3]; exact h.sg, by rw [e2, e3]; exact h.qg⟩
/-- one number of its block is stored to -/
theorem XM.num {W : World} {X B : Nat} {x : WS} (h : XM W X B x) (i : Nat) (v : Value) (x' : WS) (hc : x.cells.setIfInBounds i v = x'.cells) (e1 : x'.sv = x.sv) (e2 : x'.qv = x.qv) (e3 : x'.gv = x.gv) (e4 : x'.sn = x.sn) (e5 : x'.qn = x.qn) (e6 : x'.gn = x.gn) (e7 : x'.Rs = x.Rs) (e8 : x'.Rq = x.Rq) (e9 : x'.Rg = x.Rg) (e10 : x'.ks = x.ks := by rfl) : XM (W.setCell ⟨X, i, none⟩ v) X B x' ∧ W.grownBy (W.setCell ⟨X, i, none⟩ v) (some X) := by
  obtain ⟨s1, s2⟩ := set_row h.bx i v hc
  exact ⟨h.set s2 s1 (XM.same (X := X) h.ro e1 e2 e3 e4 e5 e6 e7 e8 e9) e10, s2⟩
def lateT (x : WS) : LO := if x.tr = 100 then ⟨0, 0, x.tr, 19, false, false⟩ else ⟨0, 0, x.tr + 1, x.ha, true, true⟩
set_option maxRecDepth 1000000 in
set_option maxHeartbeats 8000000 in
theorem late_t (X B b tmv : Nat) (x : WS) (hB : B ≤ X) (hN : x.N ≤ 100) (hb : x.N = b + x.sn) (hgn : x.gn ≤ 50000) (hR : conts x.Rs = ones (List.range' b x.sn)) (htr : x.tr ≤ 100)
    (Q : Exit → Act → World → Prop) (y : Nat → Value) (w : World) (s0 : y 0 = .pointer (some ⟨X, 0, none⟩)) (hM : XM w X B { x with tm := tmv }) (hQ : ∀ y' w', y' 4 = .bool (lateT x).go → LatS w w' X B b x (lateT x) → Q .ret ⟨fr 103 y', []⟩ w') :
    Code.wp Try.prog (pieceOf Try.f37 [1, 1, 1]) Q ⟨fr 103 y, []⟩ w := by
  have HQ := hid hQ
  have HR := hid hR
  have Hb := hid hb
  have HX := hid hM
  have HlB := hid (show B ≤ w.heap.size from Nat.le_trans hB (Nat.le_of_lt (row_lt hM.bx)))
  have x5 : w.cell? ⟨X, 5, none⟩ = some (.int .i64 (tmv : Int)) := by rw [cell_of_row _ _ _ _ _ _ hM.bx]; rfl
  have x9 : w.cell? ⟨X, 9, none⟩ = some (.int .i64 (x.si : Int)) := by rw [cell_of_row _ _ _ _ _ _ hM.bx]; rfl
  have fz := frozen_row hM.bx
  obtain ⟨s1, s2⟩ := hM.num 5 (.int .i64 0) { x with tm := 0 } rfl rfl rfl rfl rfl rfl rfl rfl rfl rfl
  obtain ⟨s3, s4⟩ := s1.num 9 (.int .i64 0) { x with tm := 0, si := 0 } rfl rfl rfl rfl rfl rfl rfl rfl rfl rfl
  have H2 := hid s3
  have B2 := hid ((Below.refl B w).grown (grownBy_trans s2 s4) HlB.out (fun k e => by cases e; exact hB))
  clear hQ hR hb hM s1 s2 s3 s4
  conv => arg 2; whnf
  rw [fr103]
  simp only [s0]
  clear s0
  refine wp_seq_k (fun K0 hK0 => ?_)
  go_wp2_with fail
  refine hK0.out _ _ ?_
  clear x5 x9 fz
  generalize (w.setCell ⟨X, 5, none⟩ (.int .i64 0)).setCell ⟨X, 9, none⟩ (.int .i64 0) = V at *
  refine wp_seq_k (fun K1 hK1 => ?_)
  refine wp_seq ?_
  refine wp_region_can_all [] [0, 1, 2, 3, 4, 5, 6, 7, 8, 9, 10] (fun u u' => u' = u) (fun u => rfl) (fun _ _ _ h k => k.trans h) (by kernel_rfl) (by kernel_rfl) ?_
  simp only [List.map_cons, List.map_nil, List.contains_nil, List.getD_cons_zero, List.getD_cons_succ]
  have H3 := hid (H2.out.below ((Below.refl _ V).drew))
  have B3 := hid (B2.out.trans ((Below.refl B V).drew))
  clear H2 B2
  generalize V.drew = U at *
  have x7 : ∀ w', w' = U → w'.cell? ⟨X, 7, none⟩ = some (.int .i64 (x.tr : Int)) := fun w' h => by rw [h, cell_of_row _ _ _ _ _ _ H3.out.bx]; rfl
  have x8 : ∀ w', w' = U → w'.cell? ⟨X, 8, none⟩ = some (.int .i64 100) := fun w' h => by rw [h, cell_of_row _ _ _ _ _ _ H3.out.bx]; rfl
  iterate 11 (refine wpL_do rfl (fun w' hw' => (by go_simp; rfl)) ?_; simp only [Act.put, List.setIfInBounds_toArray, List.set_cons_succ, List.set_cons_zero])
  refine wpL_nil ?_
  clear x7 x8
  by_cases h1 : x.tr = 100
  · have hlo : lateT x = ⟨0, 0, x.tr, 19, false, false⟩ := if_pos h1
    rw [hlo] at HQ
    have e1 : ((x.tr : Int) == 100) = true := by rw [h1]; rfl
    have e2 : decide ((x.tr : Int) = 100) = true := decide_eq_true (by omega)
    have x11 : U.cell? ⟨X, 11, none⟩ = some (.int .i64 (x.ha : Int)) := by rw [cell_of_row _ _ _ _ _ _ H3.out.bx]; rfl
    have fz := frozen_row H3.out.bx 11
    obtain ⟨s1, s2⟩ := H3.out.num 11 (.int .i64 19) { x with tm := 0, si := 0, ha := 19 } rfl rfl rfl rfl rfl rfl rfl rfl rfl rfl
    have S1 := hid s1
    have S2 := hid s2
    clear s1 s2 hlo h1
    go_wp2_with fail
    refine q_frX (N := 103) (Post := fun y' w' => y' 4 = .bool false ∧ LatS w w' X B b x ⟨0, 0, x.tr, 19, false, false⟩) (fun y' w' h => HQ.out y' w' h.1 h.2) rfl ⟨rfl, ⟨x.ga, x.gn, x.gc, x.Rg, S1.out, by rw [if_neg (fun h => Bool.noConfusion h), List.append_nil], by rw [if_neg (fun h => Bool.noConfusion h)]; rfl⟩, B3.out.grown S2.out (Nat.le_trans HlB.out B3.out.size) (fun k e => by cases e; exact hB)⟩
  · have hlo : lateT x = ⟨0, 0, x.tr + 1, x.ha, true, true⟩ := if_neg h1
    rw [hlo] at HQ
    have e1 : ((x.tr : Int) == 100) = false := by rw [beq_eq_false_iff_ne]; omega
    have e2 : decide ((x.tr : Int) = 100) = false := decide_eq_false (by omega)
    have e3 : (x.tr == 100) = false := by rw [beq_eq_false_iff_ne]; exact h1
    go_wp2_with fail
    refine hK1.out _ _ ?_
    clear e1 e2 e3 hlo h1
    have a1 : IntKind.i64.wrap ((x.tr : Int) + 1) = (x.tr : Int) + 1 := IntWalk.i64_in _ (by omega)
    have a2 : (x.tr : Int) + 1 = ((x.tr + 1 : Nat) : Int) := by omega
    have x7 : U.cell? ⟨X, 7, none⟩ = some (.int .i64 (x.tr : Int)) := by rw [cell_of_row _ _ _ _ _ _ H3.out.bx]; rfl
    have fz := frozen_row H3.out.bx 7
    obtain ⟨s1, s2⟩ := H3.out.num 7 (.int .i64 ((x.tr : Int) + 1)) { x with tm := 0, si := 0, tr := x.tr + 1 } (by rw [a2]; rfl) rfl rfl rfl rfl rfl rfl rfl rfl rfl
    have S1 := hid s1
    have B4 := hid (B3.out.grown s2 (Nat.le_trans HlB.out B3.out.size) (fun k e => by cases e; exact hB))
    clear s1 s2 a2
    refine wp_seq_k (fun K2 hK2 => ?_)
    go_wp2_with fail
    refine hK2.out _ _ ?_
    clear x7 fz a1
    generalize U.setCell ⟨X, 7, none⟩ (.int .i64 ((x.tr : Int) + 1)) = Z at *
    refine wp_seq_k (fun K3 hK3 => ?_)
    refine Tri.use (late_l X B b { x with tm := 0, si := 0, tr := x.tr + 1 } hB hN Hb.out hgn HR.out) rfl ⟨rfl, S1.out⟩ ?_
    rintro y4 W4 ⟨s0, hb4, ga, gc, Rg, hM4, hc4⟩
    refine hK3.out _ _ ?_
    have HM4 := hid hM4
    have HC4 := hid hc4
    have B5 := hid (B4.out.trans hb4)
    clear hM4 hc4 hb4
    rw [fr103]
    simp only [s0]
    clear s0
    go_wp2_with fail
    refine q_frX (N := 103) (Post := fun y' w' => y' 4 = .bool true ∧ LatS w w' X B b x ⟨0, 0, x.tr + 1, x.ha, true, true⟩) (fun y' w' h => HQ.out y' w' h.1 h.2) rfl ⟨rfl, ⟨ga, _, gc, Rg, HM4.out, by rw [if_pos rfl]; exact HC4.out, by rw [if_pos rfl]⟩, B5.out⟩
set_option maxRecDepth 1000000 in
set_option maxHeartbeats 8000000 in
theorem late_ok (X B b : Nat) (x : WS) (wi : Bool) (w : World) (h : XM w X B x) (hB : B ≤ X) (hN : x.N ≤ 100) (hb : x.N = b + x.sn) (hgn : x.gn ≤ 50000) (hR : conts x.Rs = ones (List.range' b x.sn)) (htm : x.tm < x.pt) (hpt : x.pt ≤ 1000) (htr : x.tr ≤ 100) :
    Calls Try.prog 37 #[.pointer (some ⟨X, 0, none⟩), .bool wi] w fun e w' => e = .returned (.bool (lateO x wi).go) ∧ LatS w w' X B b x (lateO x wi) := by
  have HX := hid h
  have HlB := hid (show B ≤ w.heap.size from Nat.le_trans hB (Nat.le_of_lt (row_lt h.bx)))
  have x3 : w.cell? ⟨X, 3, none⟩ = some (.slice x.sa x.sn x.sc) := by rw [cell_of_row _ _ _ _ _ _ h.bx]; rfl
  have htail := hid (fun tmv => late_t X B b tmv x hB hN hb hgn hR htr)
  clear h hR hb
  by_cases h0 : x.sn = 0
  · have ho : lateO x wi = ⟨0, x.si, x.tr, x.ha, true, false⟩ := if_pos h0
    rw [ho]
    rw [h0] at x3
    have x5 : w.cell? ⟨X, 5, none⟩ = some (.int .i64 (x.tm : Int)) := by rw [cell_of_row _ _ _ _ _ _ HX.out.bx]; rfl
    have fz := frozen_row HX.out.bx 5
    obtain ⟨s1, s2⟩ := HX.out.num 5 (.int .i64 0) { x with tm := 0 } rfl rfl rfl rfl rfl rfl rfl rfl rfl rfl
    have S1 := hid s1
    have S2 := hid s2
    clear h0 ho s1 s2 htail
    go_enter Try.func37, Try.ntmps37
    go_wp2_with fail
    go_ret
    exact ⟨rfl, ⟨x.ga, x.gn, x.gc, x.Rg, S1.out, by rw [if_neg (fun h => Bool.noConfusion h), List.append_nil], by rw [if_neg (fun h => Bool.noConfusion h)]; rfl⟩, (Below.refl B w).grown S2.out HlB.out (fun k e => by cases e; exact hB)⟩
  · have e1 : ((x.sn : Int) == 0) = false := by rw [beq_eq_false_iff_ne]; omega
    have e2 : (x.sn == 0) = false := by rw [beq_eq_false_iff_ne]; omega
    have e3 : decide ((x.sn : Int) = 0) = false := decide_eq_false (by omega)
    have hw1 : lateO x wi = if wi = false ∧ x.tm + 1 < x.pt then ⟨x.tm + 1, x.si, x.tr, x.ha, true, false⟩ else lateT x := if_neg h0
    have Hw1 := hid hw1
    clear hw1 h0
    go_enter Try.func37, Try.ntmps37
    refine wp_seq_k (fun K0 hK0 => ?_)
    go_wp2_with fail
    refine hK0.out _ _ ?_
    refine wp_seq_k (fun K1 hK1 => ?_)
    go_wp2_with fail
    refine hK1.out _ _ ?_
    clear x3 e1 e2 e3
    cases wi with
    | true =>
      have hlo : lateO x true = lateT x := by rw [Hw1.out, if_neg (fun h => Bool.noConfusion h.1)]
      rw [hlo]
      refine wp_seq_k (fun K2 hK2 => ?_)
      go_wp2_with fail
      refine hK2.out _ _ ?_
      refine use_fr (N := 103) rfl ?_
      refine htail.out x.tm _ _ w rfl HX.out (fun y' w' h4 hS => ?_)
      rw [fr103]
      simp only [h4]
      go_ret
      exact ⟨rfl, hS⟩
    | false =>
      have x5 : w.cell? ⟨X, 5, none⟩ = some (.int .i64 (x.tm : Int)) := by rw [cell_of_row _ _ _ _ _ _ HX.out.bx]; rfl
      have fz := frozen_row HX.out.bx 5
      have a1 : IntKind.i64.wrap ((x.tm : Int) + 1) = (x.tm : Int) + 1 := IntWalk.i64_in _ (by omega)
      have a2 : (x.tm : Int) + 1 = ((x.tm + 1 : Nat) : Int) := by omega
      obtain ⟨s1, s2⟩ := HX.out.num 5 (.int .i64 ((x.tm : Int) + 1)) { x with tm := x.tm + 1 } (by rw [a2]; rfl) rfl rfl rfl rfl rfl rfl rfl rfl rfl
      have H2 := hid s1
      have B2 := hid ((Below.refl B w).grown s2 HlB.out (fun k e => by cases e; exact hB))
      clear s1 s2 a2 HX
      refine wp_seq_k (fun K2 hK2 => ?_)
      refine wp_seq_k (fun K3 hK3 => ?_)
      go_wp2_with fail
      refine hK3.out _ _ ?_
      refine wp_cond_true rfl ?_
      refine wp_seq_k (fun K4 hK4 => ?_)
      go_wp2_with fail
      refine hK4.out _ _ ?_
      clear x5 fz a1
      generalize w.setCell ⟨X, 5, none⟩ (.int .i64 ((x.tm : Int) + 1)) = V at *
      refine wp_seq ?_
      refine wp_region_can_all [] [0, 1, 2, 3, 4, 5, 6, 7, 8, 9, 10] (fun u u' => u' = u) (fun u => rfl) (fun _ _ _ h k => k.trans h) (by kernel_rfl) (by kernel_rfl) ?_
      simp only [List.map_cons, List.map_nil, List.contains_nil, List.getD_cons_zero, List.getD_cons_succ]
      have H3 := hid (H2.out.below ((Below.refl _ V).drew))
      have B3 := hid (B2.out.trans ((Below.refl B V).drew))
      clear H2 B2
      generalize V.drew = U at *
      obtain ⟨tm1, htm1⟩ : ∃ t, t = x.tm + 1 := ⟨_, rfl⟩
      rw [← htm1] at H3 Hw1
      have x5 : ∀ w', w' = U → w'.cell? ⟨X, 5, none⟩ = some (.int .i64 (tm1 : Int)) := fun w' h => by rw [h, cell_of_row _ _ _ _ _ _ H3.out.bx]; rfl
      have x6 : ∀ w', w' = U → w'.cell? ⟨X, 6, none⟩ = some (.int .i64 (x.pt : Int)) := fun w' h => by rw [h, cell_of_row _ _ _ _ _ _ H3.out.bx]; rfl
      clear htm1
      iterate 11 (refine wpL_do rfl (fun w' hw' => (by go_simp; rfl)) ?_; simp only [Act.put, List.setIfInBounds_toArray, List.set_cons_succ, List.set_cons_zero])
      refine wpL_nil ?_
      clear x5 x6
      by_cases hlt : tm1 < x.pt
      · have hlo : lateO x false = ⟨tm1, x.si, x.tr, x.ha, true, false⟩ := by rw [Hw1.out, if_pos ⟨trivial, hlt⟩]
        rw [hlo]
        have d1 : decide ((tm1 : Int) < (x.pt : Int)) = true := decide_eq_true (by omega)
        go_wp2_with fail
        go_ret
        exact ⟨rfl, ⟨x.ga, x.gn, x.gc, x.Rg, H3.out, by rw [if_neg (fun h => Bool.noConfusion h), List.append_nil], by rw [if_neg (fun h => Bool.noConfusion h)]; rfl⟩, B3.out⟩
      · have hlo : lateO x false = lateT x := by rw [Hw1.out, if_neg (fun h => hlt h.2)]
        have d1 : decide ((tm1 : Int) < (x.pt : Int)) = false := decide_eq_false (by omega)
        go_wp2_with fail
        refine hK2.out _ _ ?_
        refine use_fr (N := 103) rfl ?_
        refine htail.out tm1 _ _ U rfl H3.out (fun y' w' h4 hS => ?_)
        rw [fr103]
        simp only [h4]
        go_ret
        rw [hlo]
        exact ⟨rfl, hS.ex, B3.out.trans hS.blw⟩
end Go.Proofs.Ytkngoomkmbkenaa
