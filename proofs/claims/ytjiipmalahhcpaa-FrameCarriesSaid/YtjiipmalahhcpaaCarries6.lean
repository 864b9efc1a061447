/- frame: small functions: in, makes, one. -/
import Derived.Test.YtjiipmalahhcpaaCarries4
import Derived.Test.YtjiipmalahhcpaaCarries5
namespace Go.Proofs.Ytjiipmalahhcpaa
set_option linter.unusedVariables false
open Go.RowKit

set_option maxRecDepth 1000000 in
theorem in_f (n m : Int) (w : World) (h0 : 0 ≤ n) (h1 : n ≤ m) : Calls Try.prog 19 #[.int .i64 n, .int .i64 m] w fun e w' => e = .returned (.bool true) ∧ w' = w := by
  have d1 : decide (0 ≤ n) = true := decide_eq_true h0
  have d2 : decide (n ≤ m) = true := decide_eq_true h1
  go_enter Try.func19, Try.ntmps19
  go_wp2
  go_ret
  exact ⟨rfl, rfl⟩
set_option maxRecDepth 1000000 in
theorem makes_ok (c s : Nat) (w : World) (hc : c ≤ 1023) (hs : 13 ≤ s) (hs2 : s ≤ 2048) : Calls Try.prog 14 #[.int .i64 (c : Int), .int .i64 (s : Int)] w fun e w' => e = .returned (.int .i64 0) ∧ w' = w := by
  have d1 : decide ((s : Int) < 13) = false := decide_eq_false (by omega)
  have d2 : decide ((2048 : Int) < (s : Int)) = false := decide_eq_false (by omega)
  have d3 : decide (s < 13) = false := decide_eq_false (by omega)
  have d4 : decide (2048 < s) = false := decide_eq_false (by omega)
  go_enter Try.func14, Try.ntmps14
  go_wp2_with ((go_at_call 19; refine (in_f _ _ _ (by omega) (by omega)).mono ?_; rintro e w' ⟨rfl, rfl⟩))
  go_ret
  exact ⟨rfl, rfl⟩
/-- bytes that are a packet's -/
structure IsEnc (bs : List Nat) : Prop where
  ex : ∃ up se ap pt ct ds, bs = encB up se ap pt ct ds ∧ AllB ds ∧ ap ≤ 2047 ∧ pt ≤ 3 ∧ ct ≤ 16383 ∧ 0 < ds.length ∧ ds.length ≤ 65536
theorem IsEnc.len {bs : List Nat} (h : IsEnc bs) : 7 ≤ bs.length ∧ bs.length ≤ 65542 := by
  obtain ⟨up, se, ap, pt, ct, ds, rfl, _, _, _, _, h1, h2⟩ := h.ex
  rw [enc_len]
  omega
theorem IsEnc.allB {bs : List Nat} (h : IsEnc bs) : AllB bs := by
  obtain ⟨up, se, ap, pt, ct, ds, rfl, h0, h1, h2, h3, h4, h5⟩ := h.ex
  exact enc_all up se ap pt ct ds h1 h2 h3 h5 h0
set_option maxRecDepth 1000000 in
set_option maxHeartbeats 1000000 in
theorem one_ok (a : Option Addr) (n c : Nat) (bs : List Nat) (w : World) (hr : Rd w a n c (vb bs)) (h : IsEnc bs) :
    Calls Try.prog 20 #[.slice a n c] w fun e w' => e = .returned (.bool true) ∧ Below w.heap.size w w' := by
  obtain ⟨up, se, ap, pt, ct, ds, rfl, h0, h1, h2, h3, h4, h5⟩ := h.ex
  have hd := decode_enc a n c up se ap pt ct ds [] w (by rw [List.append_nil]; exact hr) h0 (fun x hx => by simp at hx) h1 h2 h3 h4 h5
  have hn : 6 + ds.length = n := by have := hr.len; rw [vb_len, enc_len] at this; exact this
  have d1 : (((6 + ds.length : Nat) : Int) == (n : Int)) = true := by rw [hn]; simp
  rw [hn] at hd
  have Hn := hid hn
  clear hr h h0 h1 h2 h3 d1 hn
  go_enter Try.func20, Try.ntmps20
  refine wp_seq_k (fun K0 hK0 => ?_)
  go_wp2_with fail
  refine hK0.out _ _ ?_
  refine wp_seq_k (fun K1 hK1 => ?_)
  go_wp2_with fail
  refine hd.mono ?_
  rintro e W1 ⟨ao, cc, rfl, _, hb1⟩
  have B1 := hid hb1
  clear hb1 hd
  go_wp2_with fail
  refine hK1.out _ _ ?_
  have B2 := hid (B1.out.trans ((below_alloc W1 (.cells #[.bool up, .bool se, .int .i64 ap, .int .i64 pt, .int .i64 ct, .slice ao ds.length cc] 38)).mono B1.out.size))
  generalize W1.alloc (.cells #[.bool up, .bool se, .int .i64 ap, .int .i64 pt, .int .i64 ct, .slice ao ds.length cc] 38) = W2 at *
  go_wp2_with fail
  go_ret
  exact ⟨rfl, B2.out⟩
end Go.Proofs.Ytjiipmalahhcpaa
/- frame: queues of packets in memory; waits. -/
namespace Go.Proofs.Ytjiipmalahhcpaa
set_option linter.unusedVariables false
open Go.RowKit

set_option maxRecDepth 1000000 in
theorem fr42 (y : Nat → Value) : fr 42 y = #[y 0, y 1, y 2, y 3, y 4, y 5, y 6, y 7, y 8, y 9, y 10, y 11, y 12, y 13, y 14, y 15, y 16, y 17, y 18, y 19, y 20, y 21, y 22, y 23, y 24, y 25, y 26, y 27, y 28, y 29, y 30, y 31, y 32, y 33, y 34, y 35, y 36, y 37, y 38, y 39, y 40, y 41] := rfl
abbrev RB := (Option Addr × Nat × Nat) × List Nat
def rcs (R : List RB) : List Value := R.map fun r => .slice r.1.1 r.1.2.1 r.1.2.2
theorem rcs_len (R : List RB) : (rcs R).length = R.length := by simp [rcs]
theorem rcs_append (R S : List RB) : rcs (R ++ S) = rcs R ++ rcs S := by simp [rcs]
theorem rcs_get (R : List RB) (i : Nat) (h : i < R.length) : (rcs R)[i]? = some (.slice (R[i]).1.1 (R[i]).1.2.1 (R[i]).1.2.2) := by simp [rcs, h]
theorem rcs_one (R : List RB) : ∀ u ∈ rcs R, u.oneCell' = true := by
  intro u hu
  obtain ⟨r, _, rfl⟩ := List.mem_map.1 hu
  rfl
/-- packets in rows of bytes -/
structure PkR (W : World) (pa : Option Addr) (pn pc : Nat) (R : List RB) : Prop where
  rd : Rd W pa pn pc (rcs R)
  rows : ∀ r ∈ R, Rd W r.1.1 r.1.2.1 r.1.2.2 (vb r.2)
theorem PkR.len {W : World} {pa : Option Addr} {pn pc : Nat} {R : List RB} (h : PkR W pa pn pc R) : R.length = pn := by
  have := h.rd.len
  rwa [rcs_len] at this
theorem PkR.below {W W' : World} {pa : Option Addr} {pn pc : Nat} {R : List RB} (h : PkR W pa pn pc R) (hb : Below W.heap.size W W') : PkR W' pa pn pc R :=
  ⟨h.rd.below hb, fun r hr => (h.rows r hr).below hb⟩
theorem PkR.at_ {W : World} {pa : Option Addr} {pn pc : Nat} {R : List RB} (h : PkR W pa pn pc R) (i : Nat) (hi : i < pn) :
    ∃ b off ra rn rc bs, pa = some ⟨b, off, none⟩ ∧ b < W.heap.size ∧ W.cell? ⟨b, off + i, none⟩ = some (.slice ra rn rc) ∧ ((ra, rn, rc), bs) ∈ R ∧ R[i]? = some ((ra, rn, rc), bs) ∧ Rd W ra rn rc (vb bs) := by
  have hl := h.len
  obtain ⟨b, off, h1, h2, h3⟩ := h.rd.mem (by omega)
  have h4 := h3 i hi
  rw [rcs_get R i (by omega)] at h4
  have hm : R[i]'(by omega) ∈ R := List.getElem_mem _
  have h5 := h.rows _ hm
  have h6 : R[i]? = some (R[i]'(by omega)) := List.getElem?_eq_getElem (by omega)
  exact ⟨b, off, (R[i]'(by omega)).1.1, (R[i]'(by omega)).1.2.1, (R[i]'(by omega)).1.2.2, (R[i]'(by omega)).2, h1, h2, h4, hm, h6, h5⟩
/-- a queue -/
structure QS where
  own : Nat
  pa : Option Addr
  pn : Nat
  pc : Nat
  R : List RB
  gone : Nat
structure QS.Ok (q : QS) : Prop where
  own : q.own ≤ 255
  len : q.R.length ≤ 200
  enc : ∀ r ∈ q.R, IsEnc r.2
  g0 : q.R = [] → q.gone = 0
  g1 : ∀ r S, q.R = r :: S → q.gone < r.2.length
def WtI (W0 : World) (P : Nat) (pa : Option Addr) (pn pc : Nat) (y : Nat → Value) (W : World) : Prop :=
  ∃ i : Nat, i ≤ pn ∧ y 1 = .pointer (some ⟨P, 0, none⟩) ∧ y 16 = .slice pa pn pc ∧ y 17 = .int .i64 (pn : Int) ∧ y 18 = .int .i64 (i : Int) ∧ Below W0.heap.size W0 W
set_option maxRecDepth 1000000 in
set_option maxHeartbeats 2000000 in
theorem waits_ok (q : QS) (w : World) (hq : q.Ok) (hp : PkR w q.pa q.pn q.pc q.R) :
    Calls Try.prog 33 #[.agg #[.int .i64 (q.own : Int), .slice q.pa q.pn q.pc, .int .i64 (q.gone : Int)]] w fun e w' => e = .returned (.bool true) ∧ Below w.heap.size w w' := by
  have hl := hp.len
  have hon := hq.own
  have hln := hq.len
  have HE := hid hq.enc
  have HP := hid hp
  have HG : Hid (∀ (h : 0 < q.pn), ∃ ra rn rc bs, q.R[0]? = some ((ra, rn, rc), bs) ∧ q.gone < rn) := fun h => by
    obtain ⟨b, off, ra, rn, rc, bs, h1, h2, h4, hm, h6, h5⟩ := hp.at_ 0 h
    refine ⟨ra, rn, rc, bs, h6, ?_⟩
    have h7 := h5.len
    rw [vb_len] at h7
    cases hR : q.R with
    | nil => rw [hR] at h6; simp at h6
    | cons r S =>
      rw [hR] at h6
      simp only [List.getElem?_cons_zero, Option.some.injEq] at h6
      have h8 := hq.g1 r S hR
      rw [h6] at h8
      show q.gone < rn
      rw [← h7]
      exact h8
  have HG0 : Hid (q.pn = 0 → q.gone = 0) := fun h => hq.g0 (List.eq_nil_of_length_eq_zero (by omega))
  have hpm := Nat.le_trans hp.rd.le hp.rd.max
  unfold maxLen at hpm
  clear hq hp
  obtain ⟨own, pa, pn, pc, R, gone⟩ := q
  dsimp only at *
  have b1 := below_alloc w (.cells #[.int .i64 (own : Int), .slice pa pn pc, .int .i64 (gone : Int)] 42)
  have r1 := heap_alloc_new w (.cells #[.int .i64 (own : Int), .slice pa pn pc, .int .i64 (gone : Int)] 42)
  obtain ⟨P, hP⟩ : ∃ P, P = w.heap.size := ⟨_, rfl⟩
  rw [← hP] at r1 b1
  have HP0 := hid hP
  have R1 := hid r1
  have B1 := hid b1
  clear hP
  go_enter Try.func33, Try.ntmps33
  refine wp_seq_k (fun K0 hK0 => ?_)
  go_wp2_with fail
  rw [← HP0.out]
  refine hK0.out _ _ ?_
  generalize w.alloc (.cells #[.int .i64 (own : Int), .slice pa pn pc, .int .i64 (gone : Int)] 42) = W1 at *
  have hPl := row_lt R1.out
  have c0 : W1.cell? ⟨P, 0, none⟩ = some (.int .i64 (own : Int)) := by rw [cell_of_row _ _ _ _ _ _ R1.out]; rfl
  have c1 : W1.cell? ⟨P, 1, none⟩ = some (.slice pa pn pc) := by rw [cell_of_row _ _ _ _ _ _ R1.out]; rfl
  have d200 : decide ((200 : Int) < (pn : Int)) = false := decide_eq_false (by omega)
  have d201 : decide (200 < pn) = false := decide_eq_false (by omega)
  clear r1 b1
  refine wp_seq_k (fun K1 hK1 => ?_)
  go_wp2_with ((go_at_call 19; refine (in_f _ _ _ (by omega) (by omega)).mono ?_; rintro e w' ⟨rfl, hw'⟩; rw [hw']; clear hw' w'))
  refine hK1.out _ _ ?_
  refine wp_seq_k (fun K2 hK2 => ?_)
  refine wp_seq_k (fun K3 hK3 => ?_)
  go_wp2_with fail
  refine hK3.out _ _ ?_
  clear c0 c1
  refine wp_block ?_
  refine wp_loop_fr 42 (WtI W1 P pa pn pc) (fun y' _ => pn - (intOf (y' 18)).toNat) ⟨rfl, rfl, 0, Nat.zero_le _, rfl, rfl, rfl, rfl, Below.refl _ _⟩ ?_
  rintro z W ⟨i, hi, s1, s16, s17, s18, hB⟩
  have HB := hid hB
  rw [fr42]
  simp only [s1, s16, s17, s18]
  clear s1 s16 s17 s18
  have HPW := hid (HP.out.below ((by rw [← HP0.out]; exact B1.out : Below w.heap.size w W1).trans (hB.mono (by rw [← HP0.out]; exact Nat.le_of_lt hPl))))
  clear hB
  by_cases hlt : i < pn
  · have d1 : decide ((i : Int) < (pn : Int)) = true := decide_eq_true (by omega)
    have d2 : decide (i < pn) = true := decide_eq_true hlt
    obtain ⟨b, off, ra, rn, rc, bs, rfl, hbl, c0, hm, _, hrd⟩ := HPW.out.at_ i hlt
    have ho := one_ok ra rn rc bs W hrd (HE.out _ hm)
    clear hrd hm
    go_wp2_with fail
    refine ho.mono ?_
    rintro e W2 ⟨rfl, hb2⟩
    have HB2 := hid (HB.out.trans (hb2.mono HB.out.size))
    clear ho hb2 c0
    go_wp2_with fail
    refine ⟨rfl, rfl, ⟨i + 1, by omega, rfl, rfl, rfl, ?_, HB2.out⟩, ?_⟩
    · show Value.int .i64 _ = Value.int .i64 _
      go_num
    · show pn - (intOf (Value.int .i64 _)).toNat < _
      simp [intOf]
      omega
  · obtain rfl : i = pn := by omega
    have d1 : decide ((i : Int) < (i : Int)) = false := decide_eq_false (by omega)
    go_wp2_with fail
    refine hK2.out _ _ ?_
    have hrW := row_below R1.out HB.out
    have c1 : W.cell? ⟨P, 1, none⟩ = some (.slice pa i pc) := by rw [cell_of_row _ _ _ _ _ _ hrW]; rfl
    have c2 : W.cell? ⟨P, 2, none⟩ = some (.int .i64 (gone : Int)) := by rw [cell_of_row _ _ _ _ _ _ hrW]; rfl
    have HBw := hid (B1.out.trans (HB.out.mono (Nat.le_of_lt hPl)))
    have HRW := hid hrW
    clear hrW d1
    by_cases h0 : i = 0
    · have hg := HG0.out h0
      subst h0
      subst hg
      go_wp2_with fail
      go_ret
      exact ⟨rfl, by rw [← HP0.out]; exact HBw.out⟩
    · have e1 : ((i : Int) == 0) = false := by rw [beq_eq_false_iff_ne]; omega
      have e2 : (i == 0) = false := by rw [beq_eq_false_iff_ne]; omega
      have e3 : decide ((i : Int) = 0) = false := decide_eq_false (by omega)
      have hi0 : 0 < i := by omega
      obtain ⟨b, off, ra, rn, rc, bs, rfl, hbl, cc, hm, hR0, hrd⟩ := HPW.out.at_ 0 hi0
      obtain ⟨ra', rn', rc', bs', hR1, hgl⟩ := HG.out hi0
      rw [hR0] at hR1
      have hrn : rn = rn' := by simp at hR1; exact hR1.1.2.1
      rw [← hrn] at hgl
      clear hrn
      have hrm := Nat.le_trans hrd.le hrd.max
      unfold maxLen at hrm
      rw [Nat.add_zero] at cc
      have hlW := row_lt HRW.out
      have hd : Below W.heap.size W W.drew := (Below.refl _ W).drew
      have f0 : ∀ w', Below W.heap.size W.drew w' → w'.cell? ⟨P, 2, none⟩ = some (.int .i64 (gone : Int)) := fun w' hw => ((hd.trans hw).cell (p := ⟨P, 2, none⟩) hlW).trans c2
      have f1 : ∀ w', Below W.heap.size W.drew w' → w'.cell? ⟨P, 1, none⟩ = some (.slice (some ⟨b, off, none⟩) i pc) := fun w' hw => ((hd.trans hw).cell (p := ⟨P, 1, none⟩) hlW).trans c1
      have f2 : ∀ w', Below W.heap.size W.drew w' → w'.cell? ⟨b, off, none⟩ = some (.slice ra rn rc) := fun w' hw => ((hd.trans hw).cell (p := ⟨b, off, none⟩) hbl).trans cc
      have HBd := hid (HBw.out.trans (hd.mono (by have := HBw.out.size; have := HB.out.size; omega)))
      have a1 : (rn : Int) - 1 = ((rn - 1 : Nat) : Int) := by omega
      have w1 : IntKind.i64.wrap ((rn - 1 : Nat) : Int) = ((rn - 1 : Nat) : Int) := IntWalk.i64_in _ (by omega)
      have hgl2 : (gone : Int) ≤ ((rn - 1 : Nat) : Int) := by omega
      generalize rn - 1 = r1 at *
      clear hR0 hR1 hrd hm cc hd c2 h0 HG0 HG
      refine wp_seq_k (fun K5 hK5 => ?_)
      go_wp2_with fail
      refine hK5.out _ _ ?_
      clear c1
      refine wp_seq_k (fun K6 hK6 => ?_)
      refine wp_region_can_all [8] [0, 1, 2, 3, 4, 5, 6, 7, 8, 9] (Below W.heap.size) (fun _ => Below.refl _ _) (fun _ _ _ h k => h.trans k) (by kernel_rfl) (by kernel_rfl) ?_
      simp only [List.map_cons, List.map_nil, List.contains_cons, List.contains_nil, List.getD_cons_zero, List.getD_cons_succ, Nat.reduceBEq, Bool.or_false]
      generalize W.drew = U at *
      iterate 8 (refine wpL_do rfl (fun w' hw' => (by go_simp; rfl)) ?_; simp only [Act.put, List.setIfInBounds_toArray, List.set_cons_succ, List.set_cons_zero])
      clear f0 f1 f2
      refine wpL_call rfl (fun K hK => ?_)
      go_wp2_with fail
      refine (in_f _ _ _ (by omega) hgl2).mono ?_
      rintro e w' ⟨rfl, hw'⟩
      rw [hw']
      clear hw' w'
      refine hK _ _ (Below.refl _ _) ?_
      clear hK K
      try simp only [Act.put, List.setIfInBounds_toArray, List.set_cons_succ, List.set_cons_zero]
      refine wpL_do rfl (fun w' hw' => (by go_simp; rfl)) ?_
      simp only [Act.put, List.setIfInBounds_toArray, List.set_cons_succ, List.set_cons_zero]
      refine wpL_nil ?_
      refine hK6.out _ _ ?_
      go_wp2_with fail
      go_ret
      exact ⟨rfl, by rw [← HP0.out]; exact HBd.out⟩
end Go.Proofs.Ytjiipmalahhcpaa
/- frame: what a slice reads as, with its block's type; clones of rows and of queues. -/
namespace Go.Proofs.Ytjiipmalahhcpaa
set_option linter.unusedVariables false
open Go.RowKit

theorem Try.info33 : (Try.prog.info? 33).map (fun i => (i.zero, i.size, i.bytes)) = some (some (.slice none 0 0), 1, 24) := by kernel_rfl
theorem Try.info42 : (Try.prog.info? 42).map (fun i => (i.zero, i.size, i.bytes)) = some (some (.agg #[.int .i64 0, .slice none 0 0, .int .i64 0]), 3, 40) := by kernel_rfl
/-- it reads as xs, out of a block of type T -/
structure RdT (T : TypeId) (w : World) (ao : Option Addr) (n c : Nat) (xs : List Value) : Prop where
  rd : Rd w ao n c xs
  ty : 0 < n → ∃ b off cs, ao = some ⟨b, off, none⟩ ∧ w.heap[b]? = some (.cells cs T)
theorem RdT.below {T : TypeId} {w w' : World} {ao : Option Addr} {n c : Nat} {xs : List Value} (h : RdT T w ao n c xs) (hb : Below w.heap.size w w') : RdT T w' ao n c xs :=
  ⟨h.rd.below hb, fun hn => by
    obtain ⟨b, off, cs, h1, h2⟩ := h.ty hn
    exact ⟨b, off, cs, h1, row_below h2 hb⟩⟩
theorem RdT.kept {T : TypeId} {w w' : World} {ao : Option Addr} {n c : Nat} {xs : List Value} {row : Option Nat} (h : RdT T w ao n c xs) (hg : w.grownBy w' row) (hne : ∀ b cs, w.heap[b]? = some (.cells cs T) → row ≠ some b) : RdT T w' ao n c xs := by
  refine ⟨h.rd.grown hg (fun b off hn ha => ?_), fun hn => ?_⟩
  · obtain ⟨b', off', cs, h1, h2⟩ := h.ty hn
    rw [ha] at h1
    cases h1
    exact fun e => hne b cs h2 e.symm
  · obtain ⟨b', off', cs, h1, h2⟩ := h.ty hn
    exact ⟨b', off', cs, h1, (hg.block b' (row_lt h2) (fun e => hne b' cs h2 e.symm)).trans h2⟩
/-- one row of another type is turned -/
theorem RdT.other {T T' : TypeId} {w w' : World} {ao : Option Addr} {n c k : Nat} {xs : List Value} {cs : Array Value} (h : RdT T w ao n c xs) (hg : w.grownBy w' (some k)) (hk : w.heap[k]? = some (.cells cs T')) (hT : T ≠ T') : RdT T w' ao n c xs :=
  h.kept hg fun b cs' hb e => by
    cases e
    rw [hk] at hb
    injection hb with h1
    injection h1 with h2 h3
    exact hT h3.symm
theorem RdT.ofOwn {T : TypeId} {w : World} {B n c : Nat} {ao : Option Addr} {xs : List Value} (h : w.ownsRow B T 1 (.slice ao n c) n xs) : RdT T w ao n c xs := by
  refine ⟨Rd.ofOwn h, fun hn => ?_⟩
  rcases h.2 with ⟨h1, h2⟩ | ⟨g, cap, cur, h1, _, h3, _⟩
  · omega
  · cases h1
    exact ⟨g, 0, cur, rfl, h3⟩
theorem RdT.nil (T : TypeId) (w : World) : RdT T w none 0 0 [] := ⟨⟨rfl, Nat.le_refl _, Nat.zero_le _, fun _ => rfl, fun h => by omega⟩, fun h => by omega⟩
/-- packets in rows of bytes, with the types -/
structure PkT (W : World) (pa : Option Addr) (pn pc : Nat) (R : List RB) : Prop where
  rd : RdT 33 W pa pn pc (rcs R)
  rows : ∀ r ∈ R, RdT 5 W r.1.1 r.1.2.1 r.1.2.2 (vb r.2)
theorem PkT.pk {W : World} {pa : Option Addr} {pn pc : Nat} {R : List RB} (h : PkT W pa pn pc R) : PkR W pa pn pc R := ⟨h.rd.rd, fun r hr => (h.rows r hr).rd⟩
theorem PkT.below {W W' : World} {pa : Option Addr} {pn pc : Nat} {R : List RB} (h : PkT W pa pn pc R) (hb : Below W.heap.size W W') : PkT W' pa pn pc R := ⟨h.rd.below hb, fun r hr => (h.rows r hr).below hb⟩
theorem PkT.other {T' : TypeId} {W W' : World} {pa : Option Addr} {pn pc k : Nat} {R : List RB} {cs : Array Value} (h : PkT W pa pn pc R) (hg : W.grownBy W' (some k)) (hk : W.heap[k]? = some (.cells cs T')) (h1 : 33 ≠ T') (h2 : 5 ≠ T') : PkT W' pa pn pc R :=
  ⟨h.rd.other hg hk h1, fun r hr => (h.rows r hr).other hg hk h2⟩
set_option maxRecDepth 1000000 in
theorem cloneR_nil (w : World) : Calls Try.prog 34 #[.slice none 0 0] w fun e w' => e = .returned (.slice none 0 0) ∧ Below w.heap.size w w' := by
  have hk := fun (w : World) => Lib.run_eql_slice_nil (P := Try.prog) w 40 33 none 0 0 0 0 Try.underlying40
  go_enter Try.func34, Try.ntmps34
  go_wp2
  go_ret
  exact ⟨rfl, Below.refl _ _⟩
set_option maxRecDepth 1000000 in
theorem cloneR_some (a : Addr) (n cap : Nat) (R : List RB) (w : World) (hq : Rd w (some a) n cap (rcs R)) (hn : n ≤ 1000) :
    Calls Try.prog 34 #[.slice (some a) n cap] w fun e w' => ∃ g c, e = .returned (.slice (some ⟨g, 0, none⟩) n c) ∧ w'.ownsRow w.heap.size 33 1 (.slice (some ⟨g, 0, none⟩) n c) n (rcs R) ∧ Below w.heap.size w w' := by
  obtain ⟨i0, hi, hz0, hz1, hz2⟩ := info_parts Try.info33
  have hk := fun (w : World) => Lib.run_eql_slice_nil (P := Try.prog) w 40 33 (some a) n cap 0 0 Try.underlying40
  have hn0 : (w.alloc (.cells #[] 33)).ownsRow w.heap.size 33 1 (.slice (some ⟨w.heap.size, 0, none⟩) 0 0) 0 [] := World.ownsRow_lit (base := w.heap.size) (e := 33) (size := 1) w #[] 0 (Nat.le_refl _) (Nat.zero_le _) rfl
  have hlen := hq.len
  have hone := rcs_one R
  have hcells : ∀ j u, (rcs R)[j]? = some u → (w.alloc (.cells #[] 33)).cell? (a.add j) = some u := by
    intro j u hj
    have hjn : j < n := by have := (List.getElem?_eq_some_iff.1 hj).1; omega
    obtain ⟨b, off, ha, hlt, hc⟩ := hq.mem (by omega)
    cases ha
    rw [Addr.add_lit, World.cell?_alloc_past _ _ _ hlt, hc j hjn]
    exact hj
  generalize rcs R = xs at *
  go_enter Try.func34, Try.ntmps34
  go_wp2_with (at_builtin; refine wpList_append_own _ rfl _ _ 40 rfl w.heap.size 33 i0 (.slice none 0 0) 1 24 Try.underlying40 hi hz0 hz1 hz2 rfl (by decide) _ 0 [] rfl hn0 a n cap xs rfl ?c1 hcells hone ?c2 ?c3 ?c4 ?_)
  case c1 => omega
  case c2 => unfold maxLen; omega
  case c3 => omega
  case c4 => simp
  intro v' w1 hown' hg hnil
  obtain ⟨ao, c, rfl, hc1, hc2, hc3⟩ := own_form hown'
  rcases hc3 with ⟨rfl, h0, h1⟩ | ⟨g, rfl, hg1, hg2⟩
  · exfalso
    simp_all
  go_wp2
  go_ret
  exact ⟨g, c, rfl, hown', ((Below.refl _ w).alloc (Nat.le_refl _) _).grown hg (by simp) (fun k e => by cases e; exact Nat.le_refl _)⟩
theorem cloneR_any (ao : Option Addr) (n cap : Nat) (R : List RB) (w : World) (hq : Rd w ao n cap (rcs R)) (hn : n ≤ 1000) :
    Calls Try.prog 34 #[.slice ao n cap] w fun e w' => ∃ ao' c, e = .returned (.slice ao' n c) ∧ w'.ownsRow w.heap.size 33 1 (.slice ao' n c) n (rcs R) ∧ Below w.heap.size w w' := by
  cases ao with
  | none =>
    obtain rfl := hq.isnil rfl
    obtain rfl : n = 0 := by have := hq.le; omega
    have hb : R = [] := by have := hq.len; rw [rcs_len] at this; exact List.eq_nil_of_length_eq_zero this
    subst hb
    exact (cloneR_nil w).mono fun e w' ⟨he, hb⟩ => ⟨none, 0, he, World.ownsRow_nil _ _ _ _, hb⟩
  | some a => exact (cloneR_some a n cap R w hq hn).mono fun e w' ⟨g, c, he, ho, hb⟩ => ⟨_, c, he, ho, hb⟩
/-- the cells of seven queues -/
def qcell (q : Nat → QS) (j : Nat) : Value := if j % 3 = 0 then .int .i64 ((q (j / 3)).own : Int) else if j % 3 = 1 then .slice (q (j / 3)).pa (q (j / 3)).pn (q (j / 3)).pc else .int .i64 ((q (j / 3)).gone : Int)
/-- a block that holds seven queues -/
structure QB7 (W : World) (qb : Nat) (q : Nat → QS) : Prop where
  ex : ∃ cs : Array Value, W.heap[qb]? = some (.cells cs 42) ∧ 21 ≤ cs.size ∧ ∀ j, j < 21 → cs[j]? = some (qcell q j)
theorem QB7.cell {W : World} {qb : Nat} {q : Nat → QS} (h : QB7 W qb q) (c : Nat) (hc : c < 7) :
    W.cell? ⟨qb, c * 3, none⟩ = some (.int .i64 ((q c).own : Int)) ∧ W.cell? ⟨qb, c * 3 + 1, none⟩ = some (.slice (q c).pa (q c).pn (q c).pc) ∧ W.cell? ⟨qb, c * 3 + 2, none⟩ = some (.int .i64 ((q c).gone : Int)) ∧ (∀ o, W.frozen? ⟨qb, o, none⟩ = false) := by
  obtain ⟨cs, h1, _, h2⟩ := h.ex
  refine ⟨?_, ?_, ?_, frozen_row h1⟩
  · rw [cell_of_row _ _ _ _ _ _ h1, h2 _ (by omega)]
    unfold qcell
    rw [if_pos (by omega), show c * 3 / 3 = c by omega]
  · rw [cell_of_row _ _ _ _ _ _ h1, h2 _ (by omega)]
    unfold qcell
    rw [if_neg (by omega), if_pos (by omega), show (c * 3 + 1) / 3 = c by omega]
  · rw [cell_of_row _ _ _ _ _ _ h1, h2 _ (by omega)]
    unfold qcell
    rw [if_neg (by omega), if_neg (by omega), show (c * 3 + 2) / 3 = c by omega]
theorem QB7.lt {W : World} {qb : Nat} {q : Nat → QS} (h : QB7 W qb q) : qb < W.heap.size := by
  obtain ⟨cs, h1, _⟩ := h.ex
  exact row_lt h1
theorem QB7.below {W W' : World} {qb : Nat} {q : Nat → QS} (h : QB7 W qb q) (hb : Below W.heap.size W W') : QB7 W' qb q := by
  obtain ⟨cs, h1, h2⟩ := h.ex
  exact ⟨cs, row_below h1 hb, h2⟩
theorem QB7.kept {W W' : World} {qb : Nat} {q : Nat → QS} {row : Option Nat} (h : QB7 W qb q) (hg : W.grownBy W' row) (hne : row ≠ some qb) : QB7 W' qb q := by
  obtain ⟨cs, h1, h2⟩ := h.ex
  exact ⟨cs, (hg.block qb (row_lt h1) (fun e => hne e.symm)).trans h1, h2⟩
theorem QB7.congr {W : World} {qb : Nat} {q q' : Nat → QS} (h : QB7 W qb q) (e : ∀ c, c < 7 → q c = q' c) : QB7 W qb q' := by
  obtain ⟨cs, h1, h2, h3⟩ := h.ex
  refine ⟨cs, h1, h2, fun j hj => ?_⟩
  rw [h3 j hj]
  unfold qcell
  rw [e (j / 3) (by omega)]
/-- a queue's fields are stored to -/
theorem QB7.set {W : World} {qb : Nat} {q : Nat → QS} (h : QB7 W qb q) (c k : Nat) (hc : c < 7) (hk : k < 3) (q' : Nat → QS) (v : Value) (hv : v = qcell q' (c * 3 + k)) (hq : ∀ j, j < 21 → j ≠ c * 3 + k → qcell q' j = qcell q j) :
    QB7 (W.setCell ⟨qb, c * 3 + k, none⟩ v) qb q' ∧ W.grownBy (W.setCell ⟨qb, c * 3 + k, none⟩ v) (some qb) := by
  obtain ⟨cs, h1, h2, h3⟩ := h.ex
  obtain ⟨h4, h5⟩ := set_row h1 (c * 3 + k) v rfl
  refine ⟨⟨_, h4, by simpa using h2, fun j hj => ?_⟩, h5⟩
  rw [Array.getElem?_setIfInBounds]
  by_cases e : c * 3 + k = j
  · subst e
    rw [if_pos rfl, if_pos (by omega), hv]
  · rw [if_neg e, hq j hj (fun h => e h.symm)]
    exact h3 j hj
set_option maxRecDepth 1000000 in
theorem cloneQ (qb cap : Nat) (q : Nat → QS) (w : World) (hq : QB7 w qb q) :
    Calls Try.prog 32 #[.slice (some ⟨qb, 0, none⟩) 7 cap] w fun e w' => ∃ g c, e = .returned (.slice (some ⟨g, 0, none⟩) 7 c) ∧ 7 ≤ c ∧ c ≤ maxLen ∧ w.heap.size ≤ g ∧ QB7 w' g q ∧ Below w.heap.size w w' := by
  obtain ⟨i0, hi, hz0, hz1, hz2⟩ := info_parts Try.info42
  have hk := fun (w : World) => Lib.run_eql_slice_nil (P := Try.prog) w 24 42 (some ⟨qb, 0, none⟩) 7 cap 0 0 Try.underlying24
  have hn0 : (w.alloc (.cells #[] 42)).ownsRow w.heap.size 42 3 (.slice (some ⟨w.heap.size, 0, none⟩) 0 0) 0 [] := World.ownsRow_lit (base := w.heap.size) (e := 42) (size := 3) w #[] 0 (Nat.le_refl _) (Nat.zero_le _) rfl
  obtain ⟨xs, hxs⟩ : ∃ xs, xs = (List.range 21).map (qcell q) := ⟨_, rfl⟩
  have hlen : xs.length = 7 * 3 := by rw [hxs]; simp
  have hone : ∀ u ∈ xs, u.oneCell' = true := by
    intro u hu
    rw [hxs] at hu
    obtain ⟨j, _, rfl⟩ := List.mem_map.1 hu
    unfold qcell
    split
    · rfl
    · split <;> rfl
  have hget : ∀ j, j < 21 → xs[j]? = some (qcell q j) := fun j hj => by rw [hxs, List.getElem?_map, List.getElem?_range hj]; rfl
  have hcells : ∀ (j : Nat) (u : Value), xs[j]? = some u → (w.alloc (.cells #[] 42)).cell? ((⟨qb, 0, none⟩ : Addr).add j) = some u := by
    intro j u hj
    have hl := (List.getElem?_eq_some_iff.1 hj).1
    rw [hget j (by omega)] at hj
    obtain ⟨cs, h1, _, h2⟩ := hq.ex
    rw [Addr.add_lit, Nat.zero_add, cell_of_row _ _ _ _ _ _ (row_below h1 (below_alloc w (.cells #[] 42))), h2 j (by omega)]
    exact hj
  have HQ : Hid (∀ (W : World) (g c : Nat), W.ownsRow w.heap.size 42 3 (.slice (some ⟨g, 0, none⟩) 7 c) 7 xs → 7 ≤ c ∧ c ≤ maxLen ∧ w.heap.size ≤ g ∧ QB7 W g q) := fun W g c h => by
    rcases h.2 with ⟨h3, h0⟩ | ⟨g1, cap1, cur, h3, h4, h5, h6, h7, h8, _⟩
    · cases h3
    · cases h3
      refine ⟨h6, h7, h4, cur, h5, by omega, fun j hj => ?_⟩
      have := h.cellAt j (by omega)
      rw [cell_of_row _ _ _ _ _ _ h5] at this
      rw [this, hget j hj]
  clear hq hxs hget
  go_enter Try.func32, Try.ntmps32
  go_wp2_with (at_builtin; refine wpList_append_own _ rfl _ _ 24 rfl w.heap.size 42 i0 _ 3 40 Try.underlying24 hi hz0 hz1 hz2 rfl (by decide) _ 0 [] rfl hn0 ⟨qb, 0, none⟩ 7 cap xs rfl ?c1 hcells hone ?c2 ?c3 ?c4 ?_)
  case c1 => exact hlen
  case c2 => unfold maxLen; omega
  case c3 => omega
  case c4 => simp
  intro v' w1 hown' hg hnil
  obtain ⟨ao, c, rfl, hc1, hc2, hc3⟩ := own_form hown'
  rcases hc3 with ⟨rfl, h0, h1⟩ | ⟨g, rfl, hg1, hg2⟩
  · exfalso
    omega
  have HG := hid (((Below.refl w.heap.size w).alloc (Nat.le_refl _) (.cells #[] 42)).grown hg (by simp) (fun k e => by cases e; exact Nat.le_refl _))
  have HOw := hid (HQ.out _ _ _ hown')
  clear hown' hg hnil HQ
  go_wp2
  go_ret
  obtain ⟨k1, k2, k3, k4⟩ := HOw.out
  exact ⟨g, c, rfl, k1, k2, k3, k4, HG.out⟩
end Go.Proofs.Ytjiipmalahhcpaa
