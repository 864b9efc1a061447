/- frame: Open. -/
import Derived.Test.YtjiipmalahhcpaaTurns23
namespace Go.Proofs.Ytjiipmalahhcpaa
set_option linter.unusedVariables false
open Go.RowKit

def lq0 : LQ := ⟨0, 0, []⟩
theorem lq0_ok : lq0.Ok := ⟨Nat.zero_le _, Nat.zero_le _, fun p hp => (by cases hp), fun _ => rfl, fun p S h => (by cases h)⟩
theorem run_mk7 (u : World) : (Instr.makeSlice 24 (.int .i64 7) (.int .i64 7)).run Try.prog u =
    .ok (.slice (some ⟨u.heap.size, 0, none⟩) 7 7) (u.alloc (.cells (madeCells #[.int .i64 0, .slice none 0 0, .int .i64 0] (7 * 3)) 42)) := by
  obtain ⟨i0, hi, hz0, hz1, hz2⟩ := info_parts Try.info42
  have h := run_make (P := Try.prog) u 24 42 i0 (.agg #[.int .i64 0, .slice none 0 0, .int .i64 0]) Try.underlying24 hi hz0 .i64 .i64 7 7 (by decide) (by decide) (by rw [hz2]; decide) (by decide)
  simpa [hz1, Value.cells] using h
theorem made7 (W : World) : QB7 (W.alloc (.cells (madeCells #[.int .i64 0, .slice none 0 0, .int .i64 0] (7 * 3)) 42)) W.heap.size (fun _ => ⟨0, none, 0, 0, [], 0⟩) := by
  refine ⟨_, heap_alloc_new W _, by rw [size_madeCells]; exact Nat.le_refl _, fun j hj => ?_⟩
  unfold qcell
  have : j = 0 ∨ j = 1 ∨ j = 2 ∨ j = 3 ∨ j = 4 ∨ j = 5 ∨ j = 6 ∨ j = 7 ∨ j = 8 ∨ j = 9 ∨ j = 10 ∨ j = 11 ∨ j = 12 ∨ j = 13 ∨ j = 14 ∨ j = 15 ∨ j = 16 ∨ j = 17 ∨ j = 18 ∨ j = 19 ∨ j = 20 := by omega
  rcases this with rfl | rfl | rfl | rfl | rfl | rfl | rfl | rfl | rfl | rfl | rfl | rfl | rfl | rfl | rfl | rfl | rfl | rfl | rfl | rfl | rfl <;> simp [madeCells]
structure OpenR (W0 W : World) (craft size : Nat) (e : Ending) : Prop where
  ex : ∃ qb qc, e = .returned (.tuple #[sv craft size 0 0 qb qc, .int .i64 0]) ∧ SndL W qb qc (fun _ => lq0)
  blw : Below W0.heap.size W0 W
set_option maxRecDepth 1000000 in
set_option maxHeartbeats 4000000 in
theorem open_ok (craft size : Nat) (W0 : World) (h1 : craft ≤ 1023) (h2 : 13 ≤ size) (h3 : size ≤ 2048) :
    Calls Try.prog 6 #[.int .i64 (craft : Int), .int .i64 (size : Int)] W0 fun e w' => OpenR W0 w' craft size e := by
  have b1 := below_alloc W0 (.cells #[.int .i64 0, .int .i64 0, .int .i64 0, .int .i64 0, .slice none 0 0] 26)
  have r1 := heap_alloc_new W0 (.cells #[.int .i64 0, .int .i64 0, .int .i64 0, .int .i64 0, .slice none 0 0] 26)
  obtain ⟨P, hP⟩ : ∃ P, P = W0.heap.size := ⟨_, rfl⟩
  rw [← hP] at r1 b1
  have HP := hid hP
  have R1 := hid r1
  have B1 := hid b1
  clear hP r1 b1
  go_enter Try.func6, Try.ntmps6
  refine wp_seq_k (fun K0 hK0 => ?_)
  go_wp2_with fail
  rw [← HP.out]
  refine hK0.out _ _ ?_
  generalize W0.alloc (.cells #[.int .i64 0, .int .i64 0, .int .i64 0, .int .i64 0, .slice none 0 0] 26) = V1 at *
  have hmk := makes_ok craft size V1 h1 h2 h3
  refine wp_seq_k (fun K1 hK1 => ?_)
  go_wp2_with fail
  refine hmk.mono ?_
  rintro e w' ⟨rfl, hw'⟩
  rw [hw']
  clear hw' w' hmk
  go_wp2_with fail
  refine hK1.out _ _ ?_
  have hmk := run_mk7 V1
  have b2 := below_alloc V1 (.cells (madeCells #[.int .i64 0, .slice none 0 0, .int .i64 0] (7 * 3)) 42)
  have hq := made7 V1
  have HlP := hid (row_lt R1.out)
  have hr2 := row_below R1.out b2
  have B2 := hid (B1.out.trans (b2.mono (Nat.le_of_lt HlP.out)))
  obtain ⟨qb, hqb⟩ : ∃ qb, qb = V1.heap.size := ⟨_, rfl⟩
  rw [← hqb] at hmk hq
  clear hqb b2
  generalize madeCells #[.int .i64 0, .slice none 0 0, .int .i64 0] (7 * 3) = MB at *
  generalize hV2 : V1.alloc (.cells MB 42) = V2 at *
  clear hV2
  have t0 : V2.cell? ⟨P, 0, none⟩ = some (.int .i64 0) := by rw [cell_of_row _ _ _ _ _ _ hr2]; rfl
  have t1 : V2.cell? ⟨P, 1, none⟩ = some (.int .i64 0) := by rw [cell_of_row _ _ _ _ _ _ hr2]; rfl
  have t2 : V2.cell? ⟨P, 2, none⟩ = some (.int .i64 0) := by rw [cell_of_row _ _ _ _ _ _ hr2]; rfl
  have t3 : V2.cell? ⟨P, 3, none⟩ = some (.int .i64 0) := by rw [cell_of_row _ _ _ _ _ _ hr2]; rfl
  have t4 : V2.cell? ⟨P, 4, none⟩ = some (.slice none 0 0) := by rw [cell_of_row _ _ _ _ _ _ hr2]; rfl
  have fz := frozen_row hr2
  obtain ⟨f1, f2⟩ := five hr2 (.int .i64 (craft : Int)) (.int .i64 (size : Int)) (.int .i64 0) (.int .i64 0) (.slice (some ⟨qb, 0, none⟩) 7 7)
  obtain ⟨cq, hcq, _⟩ := hq.ex
  have HQ := hid (hq.kept f2 (ne_type hr2 (by decide) qb cq hcq))
  have HF1 := hid f1
  have HB := hid (B2.out.grown f2 (Nat.le_of_lt (row_lt hr2)) (fun k e => by cases e; exact Nat.le_refl _))
  clear f1 f2 hr2 hq hcq
  refine wp_seq_k (fun K2 hK2 => ?_)
  go_wp2_with fail
  refine hK2.out _ _ ?_
  clear t0 t1 t2 t3 t4 fz hmk
  generalize ((((V2.setCell ⟨P, 0, none⟩ (.int .i64 (craft : Int))).setCell ⟨P, 1, none⟩ (.int .i64 (size : Int))).setCell ⟨P, 2, none⟩ (.int .i64 0)).setCell ⟨P, 3, none⟩ (.int .i64 0)).setCell ⟨P, 4, none⟩ (.slice (some ⟨qb, 0, none⟩) 7 7) = Z at *
  go_wp2_with fail
  refine bodyPost_ret (results_c1 rfl _ _ P 26 #[.int .i64 (craft : Int), .int .i64 (size : Int), .int .i64 0, .int .i64 0, .slice (some ⟨qb, 0, none⟩) 7 7] (0, 0) _ rfl HF1.out Try.underlying26 rfl (by kernel_rfl)) rfl ?_
  exact ⟨⟨qb, 7, rfl, ⟨⟨_, HQ.out, fun c hc => ⟨RdT.nil 33 _, fun r hr => (by cases hr)⟩, fun c hc => rfl⟩, fun c hc => lq0_ok, Nat.le_refl _, by unfold maxLen; omega⟩⟩, by rw [← HP.out]; exact HB.out⟩
end Go.Proofs.Ytjiipmalahhcpaa
/- FrameTurns: plain, and its memory. -/
namespace Go.Proofs.Ytjiipmalahhcpaa
set_option linter.unusedVariables false
open Go.RowKit

set_option maxRecDepth 1000000 in
theorem fr181 (y : Nat → Value) : fr 181 y = #[y 0, y 1, y 2, y 3, y 4, y 5, y 6, y 7, y 8, y 9, y 10, y 11, y 12, y 13, y 14, y 15, y 16, y 17, y 18, y 19, y 20, y 21, y 22, y 23, y 24, y 25, y 26, y 27, y 28, y 29, y 30, y 31, y 32, y 33, y 34, y 35, y 36, y 37, y 38, y 39, y 40, y 41, y 42, y 43, y 44, y 45, y 46, y 47, y 48, y 49, y 50, y 51, y 52, y 53, y 54, y 55, y 56, y 57, y 58, y 59, y 60, y 61, y 62, y 63, y 64, y 65, y 66, y 67, y 68, y 69, y 70, y 71, y 72, y 73, y 74, y 75, y 76, y 77, y 78, y 79, y 80, y 81, y 82, y 83, y 84, y 85, y 86, y 87, y 88, y 89, y 90, y 91, y 92, y 93, y 94, y 95, y 96, y 97, y 98, y 99, y 100, y 101, y 102, y 103, y 104, y 105, y 106, y 107, y 108, y 109, y 110, y 111, y 112, y 113, y 114, y 115, y 116, y 117, y 118, y 119, y 120, y 121, y 122, y 123, y 124, y 125, y 126, y 127, y 128, y 129, y 130, y 131, y 132, y 133, y 134, y 135, y 136, y 137, y 138, y 139, y 140, y 141, y 142, y 143, y 144, y 145, y 146, y 147, y 148, y 149, y 150, y 151, y 152, y 153, y 154, y 155, y 156, y 157, y 158, y 159, y 160, y 161, y 162, y 163, y 164, y 165, y 166, y 167, y 168, y 169, y 170, y 171, y 172, y 173, y 174, y 175, y 176, y 177, y 178, y 179, y 180] := rfl
theorem firstQ_spec (l : Nat → LQ) (tn : Nat) : ∀ (n k : Nat), (firstQ l tn n k = none → ∀ j, k ≤ j → j < k + n → (l ((tn + j) % 7)).ps = []) ∧
    (∀ c, firstQ l tn n k = some c → ∃ j, k ≤ j ∧ j < k + n ∧ c = (tn + j) % 7 ∧ (l c).ps ≠ [] ∧ ∀ i, k ≤ i → i < j → (l ((tn + i) % 7)).ps = [])
  | 0, k => ⟨fun _ j h1 h2 => by omega, fun c h => by cases h⟩
  | n + 1, k => by
    obtain ⟨ih1, ih2⟩ := firstQ_spec l tn n (k + 1)
    unfold firstQ
    by_cases e : (l ((tn + k) % 7)).ps = []
    · rw [if_pos e]
      refine ⟨fun h j h1 h2 => ?_, fun c h => ?_⟩
      · by_cases ej : j = k
        · rw [ej]; exact e
        · exact ih1 h j (by omega) (by omega)
      · obtain ⟨j, h1, h2, h3, h4, h5⟩ := ih2 c h
        refine ⟨j, by omega, by omega, h3, h4, fun i hi1 hi2 => ?_⟩
        by_cases ei : i = k
        · rw [ei]; exact e
        · exact h5 i (by omega) hi2
    · rw [if_neg e]
      refine ⟨fun h => (by cases h), fun c h => ?_⟩
      cases h
      exact ⟨k, Nat.le_refl _, by omega, rfl, e, fun i h1 h2 => by omega⟩
structure TInv (tn : Nat) (ws : Nat → Nat) : Prop where
  tn6 : tn ≤ 6
  row : ∀ c, c < 7 → ws c + (c + 7 - tn) % 7 ≤ 6
def tick (l : Nat → LQ) (ws : Nat → Nat) (c : Nat) : Nat := if (l c).ps = [] then 0 else ws c + 1
def upd (ws : Nat → Nat) (s c : Nat) : Nat := if c = s then 0 else ws c
def someQ (l : Nat → LQ) (k : Nat) : Bool := (List.range k).any fun c => !(l c).ps.isEmpty
theorem someQ_succ (l : Nat → LQ) (k : Nat) : someQ l (k + 1) = (someQ l k || !(l k).ps.isEmpty) := by
  unfold someQ
  rw [List.range_succ, List.any_append]
  simp
theorem someQ_none {l : Nat → LQ} (h : ∀ c, c < 7 → (l c).ps = []) : someQ l 7 = false := by
  unfold someQ
  rw [List.any_eq_false]
  intro c hc
  rw [h c (List.mem_range.1 hc)]
  decide
theorem someQ_some {l : Nat → LQ} {c : Nat} (hc : c < 7) (h : (l c).ps ≠ []) : someQ l 7 = true := by
  unfold someQ
  rw [List.any_eq_true]
  refine ⟨c, List.mem_range.2 hc, ?_⟩
  cases hp : (l c).ps with
  | nil => exact absurd hp h
  | cons a r => rfl
theorem turns {l : Nat → LQ} {tn room : Nat} {ws : Nat → Nat} (h : TInv tn ws) :
    TInv (nextOf l tn room).tn (upd (tick l ws) (nextOf l tn room).ch) ∧ ((nextOf l tn room).ch = 7 ∧ someQ l 7 = false ∨ (nextOf l tn room).ch < 7 ∧ someQ l 7 = true) := by
  obtain ⟨h1, h2⟩ := firstQ_spec l tn 7 0
  have htn := h.tn6
  unfold nextOf
  cases hf : firstQ l tn 7 0 with
  | none =>
    have hall : ∀ c, c < 7 → (l c).ps = [] := fun c hc => by
      have := h1 hf ((c + 7 - tn) % 7) (Nat.zero_le _) (by omega)
      rwa [show (tn + (c + 7 - tn) % 7) % 7 = c by omega] at this
    refine ⟨⟨htn, fun c hc => ?_⟩, .inl ⟨rfl, someQ_none hall⟩⟩
    show upd (tick l ws) 7 c + (c + 7 - tn) % 7 ≤ 6
    unfold upd tick
    rw [if_neg (by omega), if_pos (hall c hc)]
    omega
  | some s =>
    obtain ⟨k, _, hk, rfl, hne, hlt⟩ := h2 s hf
    refine ⟨⟨by show ((tn + k) % 7 + 1) % 7 ≤ 6; omega, fun c hc => ?_⟩, .inr ⟨by show (tn + k) % 7 < 7; omega, someQ_some (by omega) hne⟩⟩
    show upd (tick l ws) ((tn + k) % 7) c + (c + 7 - ((tn + k) % 7 + 1) % 7) % 7 ≤ 6
    unfold upd tick
    by_cases e : c = (tn + k) % 7
    · rw [if_pos e]; omega
    · rw [if_neg e]
      by_cases ec : (l c).ps = []
      · rw [if_pos ec]; omega
      · rw [if_neg ec]
        have hrow := h.row c hc
        have hj : ¬ (c + 7 - tn) % 7 < k := fun hlt2 => ec (by
          have := hlt ((c + 7 - tn) % 7) (Nat.zero_le _) hlt2
          rwa [show (tn + (c + 7 - tn) % 7) % 7 = c by omega] at this)
        omega
theorem ldStep_len (room : Nat) (s : LS) (m : Nat) (h : s.ps.length ≤ m) (hm : 1 ≤ m) : (s.step room).ps.length ≤ m := by
  have hu : (s.up room).ps.length ≤ m := by
    unfold LS.up
    split
    · exact hm
    · exact h
  unfold LS.step
  generalize s.up room = u at *
  dsimp only
  split
  · rw [List.length_tail]; omega
  · exact hu
theorem ldN_len (room m : Nat) (hm : 1 ≤ m) : ∀ (f : Nat) (s : LS), s.ps.length ≤ m → (ldN room f s).ps.length ≤ m
  | 0, s, h => h
  | f + 1, s, h => by
    unfold ldN
    split
    · exact ldN_len room m hm f _ (ldStep_len room s m h hm)
    · exact h
theorem next_len {l : Nat → LQ} {tn room m : Nat} (hm : 1 ≤ m) (h : ∀ c, c < 7 → (l c).ps.length ≤ m) : ∀ c, c < 7 → ((nextOf l tn room).l c).ps.length ≤ m := by
  intro c hc
  unfold nextOf
  cases hf : firstQ l tn 7 0 with
  | none => exact h c hc
  | some s =>
    show (if c = s then _ else l c : LQ).ps.length ≤ m
    by_cases e : c = s
    · rw [if_pos e]
      subst e
      exact ldN_len room m hm room _ (h c hc)
    · rw [if_neg e]
      exact h c hc
/-- seven numbers in a block -/
structure IR (W : World) (wb : Nat) (ws : Nat → Nat) : Prop where
  ex : ∃ cs : Array Value, W.heap[wb]? = some (.cells cs 3) ∧ 7 ≤ cs.size ∧ ∀ j, j < 7 → cs[j]? = some (.int .i64 (ws j : Int))
theorem IR.cell {W : World} {wb : Nat} {ws : Nat → Nat} (h : IR W wb ws) (c : Nat) (hc : c < 7) : W.cell? ⟨wb, c, none⟩ = some (.int .i64 (ws c : Int)) ∧ W.frozen? ⟨wb, c, none⟩ = false := by
  obtain ⟨cs, h1, _, h2⟩ := h.ex
  exact ⟨by rw [cell_of_row _ _ _ _ _ _ h1, h2 c hc], frozen_row h1 _⟩
theorem IR.below {W W' : World} {wb : Nat} {ws : Nat → Nat} (h : IR W wb ws) (hb : Below W.heap.size W W') : IR W' wb ws := by
  obtain ⟨cs, h1, h2⟩ := h.ex
  exact ⟨cs, row_below h1 hb, h2⟩
theorem IR.other {W W' : World} {wb k T : Nat} {ws : Nat → Nat} {cs : Array Value} (h : IR W wb ws) (hg : W.grownBy W' (some k)) (hk : W.heap[k]? = some (.cells cs T)) (hT : 3 ≠ T) : IR W' wb ws := by
  obtain ⟨c2, h1, h2⟩ := h.ex
  exact ⟨c2, row_grown h1 hg (ne_tt h1 hk hT), h2⟩
theorem IR.set {W : World} {wb : Nat} {ws : Nat → Nat} (h : IR W wb ws) (c v : Nat) (hc : c < 7) : IR (W.setCell ⟨wb, c, none⟩ (.int .i64 (v : Int))) wb (fun x => if x = c then v else ws x) ∧ W.grownBy (W.setCell ⟨wb, c, none⟩ (.int .i64 (v : Int))) (some wb) := by
  obtain ⟨cs, h1, h2, h3⟩ := h.ex
  obtain ⟨m1, m2⟩ := set_row h1 c (.int .i64 (v : Int)) rfl
  refine ⟨⟨_, m1, by rw [Array.size_setIfInBounds]; exact h2, fun j hj => ?_⟩, m2⟩
  by_cases e : j = c
  · subst e
    rw [if_pos rfl, Array.getElem?_setIfInBounds_self_of_lt (by omega)]
  · rw [if_neg e, Array.getElem?_setIfInBounds_ne (fun h => e h.symm)]
    exact h3 j hj
theorem IR.congr {W : World} {wb : Nat} {ws ws' : Nat → Nat} (h : IR W wb ws) (e : ∀ c, c < 7 → ws c = ws' c) : IR W wb ws' := by
  obtain ⟨cs, h1, h2, h3⟩ := h.ex
  exact ⟨cs, h1, h2, fun j hj => by rw [← e j hj]; exact h3 j hj⟩
theorem SndL.other {W W' : World} {qb qc k T : Nat} {l : Nat → LQ} {cs : Array Value} (h : SndL W qb qc l) (hg : W.grownBy W' (some k)) (hk : W.heap[k]? = some (.cells cs T)) (h1 : T ≠ 42) (h2 : 33 ≠ T) (h3 : 5 ≠ T) : SndL W' qb qc l := by
  obtain ⟨q, k1, k2, k3⟩ := h.ex
  obtain ⟨cq, hq, _⟩ := k1.ex
  exact ⟨⟨q, k1.kept hg (ne_type hk h1 qb cq hq), fun c hc => (k2 c hc).other hg hk h2 h3, k3⟩, h.k, h.le, h.mx⟩
/-- what the law has in memory -/
structure TM (W : World) (S wb qb qc n ms tn : Nat) (l : Nat → LQ) (ws : Nat → Nat) : Prop where
  bx : W.heap[S]? = some (.cells #[.int .i64 3, .int .i64 (n : Int), .int .i64 (ms : Int), .int .i64 (tn : Int), .slice (some ⟨qb, 0, none⟩) 7 qc] 26)
  sl : SndL W qb qc l
  ir : IR W wb ws
theorem TM.below {W W' : World} {S wb qb qc n ms tn : Nat} {l : Nat → LQ} {ws : Nat → Nat} (h : TM W S wb qb qc n ms tn l ws) (hb : Below W.heap.size W W') : TM W' S wb qb qc n ms tn l ws :=
  ⟨row_below h.bx hb, h.sl.below hb, h.ir.below hb⟩
theorem TM.wait {W W' : World} {S wb qb qc n ms tn : Nat} {l : Nat → LQ} {ws ws' : Nat → Nat} (h : TM W S wb qb qc n ms tn l ws) (hg : W.grownBy W' (some wb)) (hn : IR W' wb ws') : TM W' S wb qb qc n ms tn l ws' := by
  obtain ⟨cs, h1, _⟩ := h.ir.ex
  exact ⟨row_grown h.bx hg (ne_tt h.bx h1 (by decide)), h.sl.other hg h1 (by decide) (by decide) (by decide), hn⟩
structure SX (y : Nat → Value) (ja : Option Addr) (jn jc n S wb : Nat) (i : Nat) : Prop where
  s1 : y 1 = .slice ja jn jc
  s5 : y 5 = .int .i64 (n : Int)
  s6 : y 6 = .pointer (some ⟨S, 0, none⟩)
  s7 : y 7 = .int .i64 0
  s8 : y 8 = .slice (some ⟨wb, 0, none⟩) 7 7
  s9 : y 9 = .int .i64 (i : Int)
end Go.Proofs.Ytjiipmalahhcpaa
