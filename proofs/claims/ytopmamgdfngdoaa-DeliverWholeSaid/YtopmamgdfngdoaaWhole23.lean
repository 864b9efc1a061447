/- deliver: note (printed by gennte.py). -/
import Derived.Test.YtopmamgdfngdoaaWhole22
import Derived.Defers
import Derived.Recover
import Derived.Tactics2
import Derived.Deep.MidRow
namespace Go.Proofs.Ytopmamgdfngdoaa
set_option linter.unusedVariables false
open Go.RowKit

theorem RB.other {W W' : World} {P N T : Nat} {bs : List Nat} {cs : Array Value} (h : RB W P bs) (hg : W.grownBy W' (some N)) (hN : W.heap[N]? = some (.cells cs T)) (h5 : (5 : Nat) ≠ T) (h95 : (95 : Nat) ≠ T) : RB W' P bs := by
  obtain ⟨a, c, h1, h2⟩ := h.ex
  exact ⟨a, c, Stays.ofSet hg hN h95 _ _ h1, h2.other hg hN h5⟩
theorem RB.below {W W' : World} {P : Nat} {bs : List Nat} (h : RB W P bs) (hb : Below W.heap.size W W') : RB W' P bs := by
  obtain ⟨a, c, h1, h2⟩ := h.ex
  exact ⟨a, c, row_below h1 hb, h2.below hb⟩
theorem RB.lt {W : World} {P : Nat} {bs : List Nat} (h : RB W P bs) : P < W.heap.size := by
  obtain ⟨a, c, h1, h2⟩ := h.ex
  exact row_lt h1
/-- a number whose bytes are known -/
theorem number_at (P k : Nat) (pre rest : List Nat) (z : Int) (w : World) (h : RB w P (pre ++ rest)) (hk : pre.length = k) (hz : ((numB pre : Nat) : Int) = z) (hk0 : 0 < k) (hk4 : k ≤ 4) (hl : (pre ++ rest).length ≤ 100000) (hab : AllB (pre ++ rest)) :
    Calls Try.prog 61 #[.pointer (some ⟨P, 0, none⟩), .int .i64 (k : Int)] w fun e w' => e = .returned (.int .i64 z) ∧ RB w' P rest ∧ w.grownBy w' (some P) := by
  refine (number_ok P k (pre ++ rest) w h hk0 (by rw [List.length_append]; omega) hk4 hl hab).mono ?_
  rintro e w' ⟨h1, h2, h3⟩
  subst hk
  rw [List.take_left] at h1
  rw [List.drop_left] at h2
  rw [hz] at h1
  exact ⟨h1, h2, h3⟩
structure NoteR (D : DP) (W0 W : World) (P : Nat) (k : NT) (e : Ending) : Prop where
  ex : ∃ a c, e = .returned (.agg (ncl D ⟨k, a, c⟩).toArray) ∧ NVM D W ⟨k, a, c⟩
  rb : RB W P []
  g : W0.grownBy W (some P)
theorem log_str : strB [108, 111, 103] = logS := rfl
def KS2 (P N : Nat) (u u' : World) : Prop := u.heap.size ≤ u'.heap.size ∧ ∀ b, b < u.heap.size → b ≠ P → b ≠ N → u'.heap[b]? = u.heap[b]?
theorem KS2.refl (P N : Nat) (u : World) : KS2 P N u u := ⟨Nat.le_refl _, fun _ _ _ _ => rfl⟩
theorem KS2.trans {P N : Nat} {a b c : World} (h : KS2 P N a b) (k : KS2 P N b c) : KS2 P N a c := ⟨Nat.le_trans h.1 k.1, fun i hi h1 h2 => (k.2 i (Nat.lt_of_lt_of_le hi h.1) h1 h2).trans (h.2 i hi h1 h2)⟩
theorem KS2.ofP {P N : Nat} {a b : World} (h : a.grownBy b (some P)) : KS2 P N a b := ⟨h.size, fun i hi h1 _ => h.block i hi (fun e => by cases e; exact h1 rfl)⟩
theorem KS2.ofN {P N : Nat} {a b : World} (h : a.grownBy b (some N)) : KS2 P N a b := ⟨h.size, fun i hi _ h2 => h.block i hi (fun e => by cases e; exact h2 rfl)⟩
theorem grownBy_new {a b c : World} {P N : Nat} (h : a.grownBy b (some P)) (k : b.grownBy c (some N)) (hN : a.heap.size ≤ N) : a.grownBy c (some P) :=
  ⟨k.1.trans h.1, k.2.trans h.2, k.3.trans h.3, Nat.le_trans h.size k.size, fun i hi hne => (k.block i (Nat.lt_of_lt_of_le hi h.size) (fun e => by cases e; omega)).trans (h.block i hi hne)⟩
theorem run_load_note {W : World} {N : Nat} {cs : Array Value} (A : W.heap[N]? = some (.cells cs 60)) (hs : cs.size = 10) : (Instr.loadAt 60 (.pointer (some ⟨N, 0, none⟩))).run Try.prog W = .ok (.agg cs) W :=
  run_load_block A Try.underlying60 rfl (by rw [hs]; kernel_rfl)
theorem results_cell1 {P : Program} {fn : Func} {p : Tmp} {ty : TypeId} (h : fn.results = #[.cell p ty]) (tmps : Array Value) (w : World) (g : Nat) (t : TypeId) (cs : Array Value) (fr : Nat × Nat)
    (hp : tmps.getD p undef = .pointer (some ⟨g, 0, none⟩)) (hg : w.heap[g]? = some (.cells cs t fr))
    (hud : (P.underlying ty).map (fun d => match d with | .struct _ | .array _ _ => true | _ => false) = some true) (hi : (P.info? ty).map (·.size) = some cs.size) :
    (results fn tmps).run P w = .ok (.agg cs) w := by
  obtain ⟨d, hu, hd⟩ := Option.map_eq_some_iff.1 hud
  have hp' : tmps[p]?.getD undef = .pointer (some ⟨g, 0, none⟩) := by simpa using hp
  simp [results, h, hp', asAddr, run_loadVar_row w g t ty cs fr d hg hu (by cases d <;> first | rfl | cases hd) hi]
theorem nby_all (D : DP) (hD : DOk D) (k : NT) (_ : True) : AllB (nby D k) := by
  have h3 : ∀ a b c : Nat, a < 256 → b < 256 → c < 256 → AllB [a, b, c] := fun a b c h1 h2 h3 x hx => by
    simp only [List.mem_cons, List.not_mem_nil, or_false] at hx
    rcases hx with rfl | rfl | rfl <;> assumption
  have h1 : ∀ a : Nat, a < 256 → AllB [a] := fun a h x hx => by rw [List.mem_singleton] at hx; subst hx; exact h
  have app : ∀ a b : List Nat, AllB a → AllB b → AllB (a ++ b) := fun a b ha hb x hx => (List.mem_append.1 hx).elim (ha x) (hb x)
  cases k with
  | nm => exact app _ _ (h3 1 0 7 (by decide) (by decide) (by decide)) (app _ _ (be4_all _) (h3 108 111 103 (by decide) (by decide) (by decide)))
  | np x y => exact app _ _ (h3 2 0 7 (by decide) (by decide) (by decide)) (app _ _ (be4_all _) (fun z hz => hD.all z (List.mem_of_mem_drop (List.mem_of_mem_take hz))))
  | ne => exact app _ _ (h3 3 0 7 (by decide) (by decide) (by decide)) (app _ _ (be4_all _) (be4_all _))
  | ng l =>
    refine app _ _ (h3 4 0 7 (by decide) (by decide) (by decide)) (fun x hx => ?_)
    obtain ⟨s, _, hs⟩ := List.mem_flatMap.1 hx
    exact app _ _ (be4_all _) (be4_all _) x hs
  | nd => exact app _ _ (h3 5 0 7 (by decide) (by decide) (by decide)) (h1 0 (by decide))
  | se => exact app _ _ (h3 6 0 7 (by decide) (by decide) (by decide)) (h1 3 (by decide))
  | sd => exact app _ _ (h3 6 0 7 (by decide) (by decide) (by decide)) (h1 5 (by decide))
theorem AllB.right {a b : List Nat} (h : AllB (a ++ b)) : AllB b := fun x hx => h x (List.mem_append_right _ hx)
set_option maxRecDepth 1000000 in
set_option maxHeartbeats 8000000 in
theorem note_nd (D : DP) (hD : DOk D) (P : Nat) (w : World) (h : RB w P (nby D (.nd))) :
    Calls Try.prog 49 #[.pointer (some ⟨P, 0, none⟩)] w fun e w' => NoteR D w w' P (.nd) e := by
  have hF := hD.P.F
  have hfl := hD.len
  have hds := hD.s
  have hP := h.lt
  have hab := nby_all D hD .nd trivial
  have hlen : (nby D (.nd)).length ≤ 100000 := (by show 3 + 1 ≤ _; omega)
  have bN := below_alloc w (.cells #[.int .i64 0, .int .i64 0, .string { data := #[] }, .int .i64 0, .int .i64 0, .int .i64 0, .slice none 0 0, .slice none 0 0, .int .i64 0, .int .i64 0] 60)
  have AN := hid (heap_alloc_new w (.cells #[.int .i64 0, .int .i64 0, .string { data := #[] }, .int .i64 0, .int .i64 0, .int .i64 0, .slice none 0 0, .slice none 0 0, .int .i64 0, .int .i64 0] 60))
  have R0 := hid (show RB _ P ([5] ++ ([0, 7] ++ [0])) from h.below bN)
  have hg0 := grownBy_of_below bN (some P)
  have G0 := hid hg0
  have HAB := hid (show AllB ([5] ++ ([0, 7] ++ [0])) from hab)
  have HL := hid (show ([5] ++ ([0, 7] ++ [0])).length ≤ 100000 from hlen)
  clear h bN hg0 hab hlen
  go_enter Try.func49, Try.ntmps49
  refine wp_seq_k (fun K0 hK0 => ?_)
  go_wp2_with fail
  refine hK0.out _ _ ?_
  obtain ⟨N, hN⟩ : ∃ N, N = w.heap.size := ⟨_, rfl⟩
  have hNP : N ≠ P := by omega
  have hNw : w.heap.size ≤ N := by omega
  rw [← hN] at AN ⊢
  clear hN
  generalize w.alloc (.cells #[.int .i64 0, .int .i64 0, .string { data := #[] }, .int .i64 0, .int .i64 0, .int .i64 0, .slice none 0 0, .slice none 0 0, .int .i64 0, .int .i64 0] 60) = V at *
  have hn1 := hid (number_at P 1 [5] ([0, 7] ++ [0]) 5 V R0.out rfl rfl (by decide) (by decide) HL.out HAB.out)
  try rw [show ((1 : Nat) : Int) = 1 from rfl] at hn1
  refine wp_seq_k (fun K1 hK1 => ?_)
  go_wp2_with fail
  refine hn1.out.mono ?_
  rintro e V1 ⟨rfl, hrb, hg⟩
  have R1 := hid hrb
  have A1 := hid (row_grown AN.out hg hNP)
  have G1 := hid (grownBy_trans G0.out hg)
  clear hrb hg hn1 AN R0 G0
  have hn2 := hid (number_at P 2 [0, 7] [0] 7 V1 R1.out rfl rfl (by decide) (by decide) (by have := HL.out; rw [List.length_append] at this; exact Nat.le_trans (Nat.le_add_left _ _) this) HAB.out.right)
  try rw [show ((2 : Nat) : Int) = 2 from rfl] at hn2
  go_wp2_with fail
  refine hn2.out.mono ?_
  rintro e V2 ⟨rfl, hrb, hg⟩
  have R2 := hid hrb
  have A2 := hid (row_grown A1.out hg hNP)
  have G2 := hid (grownBy_trans G1.out hg)
  clear hrb hg hn2 A1 R1 G1
  have c0 : V2.cell? ⟨N, 0, none⟩ = some (.int .i64 0) := by rw [cell_of_row _ _ _ _ _ _ A2.out]; rfl
  have fz0 := frozen_row A2.out 0
  obtain ⟨m1, m2⟩ := set_row (cs' := #[.int .i64 5, .int .i64 0, .string { data := #[] }, .int .i64 0, .int .i64 0, .int .i64 0, .slice none 0 0, .slice none 0 0, .int .i64 0, .int .i64 0]) A2.out 0 (.int .i64 5) rfl
  have c1 : (V2.setCell ⟨N, 0, none⟩ (.int .i64 5)).cell? ⟨N, 1, none⟩ = some (.int .i64 0) := by rw [cell_of_row _ _ _ _ _ _ m1]; rfl
  have fz1 := frozen_row m1 1
  obtain ⟨l1, l2⟩ := set_row (cs' := #[.int .i64 5, .int .i64 7, .string { data := #[] }, .int .i64 0, .int .i64 0, .int .i64 0, .slice none 0 0, .slice none 0 0, .int .i64 0, .int .i64 0]) m1 1 (.int .i64 7) rfl
  have A3 := hid l1
  have R3 := hid ((R2.out.other m2 A2.out (by decide) (by decide)).other l2 m1 (by decide) (by decide))
  have G3 := hid (grownBy_new G2.out (grownBy_trans m2 l2) hNw)
  clear m1 m2 l1 l2 A2 R2 G2
  go_wp2_with fail
  refine hK1.out _ _ ?_
  clear c0 c1 fz0 fz1
  generalize (V2.setCell ⟨N, 0, none⟩ (.int .i64 5)).setCell ⟨N, 1, none⟩ (.int .i64 7) = V3 at *
  have hN3 := row_lt A3.out
  refine wp_seq_k (fun K2 hK2 => ?_)
  have n0 : V3.cell? ⟨N, 0, none⟩ = some (.int .i64 5) := by rw [cell_of_row _ _ _ _ _ _ A3.out]; rfl
  refine wp_seq_k (fun K3 hK3 => ?_)
  go_wp2_with fail
  refine hK3.out _ _ ?_
  clear n0
  refine wp_block ?_
  refine wp_seq_k (fun T1 hT1 => ?_)
  go_wp2_with fail
  refine hT1.out _ _ ?_
  refine wp_cond_false rfl ?_
  refine wp_seq_k (fun T2 hT2 => ?_)
  go_wp2_with fail
  refine hT2.out _ _ ?_
  refine wp_cond_false rfl ?_
  refine wp_seq_k (fun T3 hT3 => ?_)
  go_wp2_with fail
  refine hT3.out _ _ ?_
  refine wp_cond_false rfl ?_
  refine wp_seq_k (fun T4 hT4 => ?_)
  go_wp2_with fail
  refine hT4.out _ _ ?_
  refine wp_cond_false rfl ?_
  refine wp_seq_k (fun T5 hT5 => ?_)
  go_wp2_with fail
  refine hT5.out _ _ ?_
  refine wp_cond_true rfl ?_
  have hn3 := hid (number_at P 1 [0] [] 0 V3 R3.out rfl rfl (by decide) (by decide) (by decide) (fun x hx => by rw [List.append_nil, List.mem_singleton] at hx; subst hx; decide))
  try rw [show ((1 : Nat) : Int) = 1 from rfl] at hn3
  go_wp2_with fail
  refine hn3.out.mono ?_
  rintro e V4 ⟨rfl, hrb, hg⟩
  have R4 := hid hrb
  have A4 := hid (row_grown A3.out hg hNP)
  have G4 := hid (grownBy_trans G3.out hg)
  clear hrb hg hn3 A3 R3 G3
  have c0 : V4.cell? ⟨N, 9, none⟩ = some (.int .i64 0) := by rw [cell_of_row _ _ _ _ _ _ A4.out]; rfl
  have fz0 := frozen_row A4.out 9
  obtain ⟨m1, m2⟩ := set_row (cs' := #[.int .i64 5, .int .i64 7, .string { data := #[] }, .int .i64 0, .int .i64 0, .int .i64 0, .slice none 0 0, .slice none 0 0, .int .i64 0, .int .i64 0]) A4.out 9 (.int .i64 0) rfl
  have A5 := hid m1
  have R5 := hid (R4.out.other m2 A4.out (by decide) (by decide))
  have G5 := hid (grownBy_new G4.out m2 hNw)
  clear m1 m2 A4 R4 G4
  go_wp2_with fail
  clear c0 fz0
  generalize V4.setCell ⟨N, 9, none⟩ (.int .i64 0) = V5 at *
  refine hK2.out _ _ ?_
  have hsz : (ncl D ⟨.nd, none, 0⟩).toArray.size = 10 := rfl
  obtain ⟨cs, hcs⟩ : ∃ cs, cs = (ncl D ⟨.nd, none, 0⟩).toArray := ⟨_, rfl⟩
  have AE : Hid (V5.heap[N]? = some (.cells cs 60)) := hid (by rw [hcs]; exact A5.out)
  rw [← hcs] at hsz
  have hone : cs.all (fun x => x.oneCell') = true := by rw [hcs]; unfold ncl ncI; simp [Value.oneCell', ndata, ngaps]
  have Hcs := hid hcs
  clear hcs
  have AE0 := AE.out
  refine wp_seq_k (fun K9 hK9 => ?_)
  obtain ⟨z1, z2⟩ := set_whole (cs' := cs) AE.out
  have RE := hid (R5.out.other z2 AE.out (by decide) (by decide))
  have GE := hid (grownBy_new G5.out z2 hNw)
  have ME := hid ((show NVM D V5 ⟨.nd, none, 0⟩ from trivial).stays (Stays.ofSet z2 AE.out (by decide)) (Stays.ofSet z2 AE.out (by decide)))
  have ZE := hid z1
  go_wp2_with (first | with_reducible refine wpList_load_row (o := ⟨some 69, _, _, _, _, _⟩) rfl 60 _ rfl N rfl 60 _ _ _ AE0 Try.underlying60 rfl (by rw [hsz]; kernel_rfl) ?_ | with_reducible refine at_store 60 ?_)
  unfold Hid
  refine wpList_store_row rfl 60 _ _ rfl N cs rfl rfl 60 _ AE.out (by rw [hsz]; try rfl) (by rw [hsz]; try rfl) hone ?_
  clear z1 z2 AE AE0 hone
  generalize V5.setRow N _ = VE at *
  go_wp2_with fail
  refine hK9.out _ _ ?_
  go_wp2_with fail
  refine bodyPost_ret (results_cell1 (fn := Try.f49) rfl _ VE N 60 _ _ rfl ZE.out (by kernel_rfl) (by rw [hsz]; kernel_rfl)) rfl ?_
  exact ⟨⟨none, 0, by rw [Hcs.out], ME.out⟩, RE.out, GE.out⟩
set_option maxRecDepth 1000000 in
set_option maxHeartbeats 8000000 in
theorem note_se (D : DP) (hD : DOk D) (P : Nat) (w : World) (h : RB w P (nby D (.se))) :
    Calls Try.prog 49 #[.pointer (some ⟨P, 0, none⟩)] w fun e w' => NoteR D w w' P (.se) e := by
  have hF := hD.P.F
  have hfl := hD.len
  have hds := hD.s
  have hP := h.lt
  have hab := nby_all D hD .se trivial
  have hlen : (nby D (.se)).length ≤ 100000 := (by show 3 + 1 ≤ _; omega)
  have bN := below_alloc w (.cells #[.int .i64 0, .int .i64 0, .string { data := #[] }, .int .i64 0, .int .i64 0, .int .i64 0, .slice none 0 0, .slice none 0 0, .int .i64 0, .int .i64 0] 60)
  have AN := hid (heap_alloc_new w (.cells #[.int .i64 0, .int .i64 0, .string { data := #[] }, .int .i64 0, .int .i64 0, .int .i64 0, .slice none 0 0, .slice none 0 0, .int .i64 0, .int .i64 0] 60))
  have R0 := hid (show RB _ P ([6] ++ ([0, 7] ++ [3])) from h.below bN)
  have hg0 := grownBy_of_below bN (some P)
  have G0 := hid hg0
  have HAB := hid (show AllB ([6] ++ ([0, 7] ++ [3])) from hab)
  have HL := hid (show ([6] ++ ([0, 7] ++ [3])).length ≤ 100000 from hlen)
  clear h bN hg0 hab hlen
  go_enter Try.func49, Try.ntmps49
  refine wp_seq_k (fun K0 hK0 => ?_)
  go_wp2_with fail
  refine hK0.out _ _ ?_
  obtain ⟨N, hN⟩ : ∃ N, N = w.heap.size := ⟨_, rfl⟩
  have hNP : N ≠ P := by omega
  have hNw : w.heap.size ≤ N := by omega
  rw [← hN] at AN ⊢
  clear hN
  generalize w.alloc (.cells #[.int .i64 0, .int .i64 0, .string { data := #[] }, .int .i64 0, .int .i64 0, .int .i64 0, .slice none 0 0, .slice none 0 0, .int .i64 0, .int .i64 0] 60) = V at *
  have hn1 := hid (number_at P 1 [6] ([0, 7] ++ [3]) 6 V R0.out rfl rfl (by decide) (by decide) HL.out HAB.out)
  try rw [show ((1 : Nat) : Int) = 1 from rfl] at hn1
  refine wp_seq_k (fun K1 hK1 => ?_)
  go_wp2_with fail
  refine hn1.out.mono ?_
  rintro e V1 ⟨rfl, hrb, hg⟩
  have R1 := hid hrb
  have A1 := hid (row_grown AN.out hg hNP)
  have G1 := hid (grownBy_trans G0.out hg)
  clear hrb hg hn1 AN R0 G0
  have hn2 := hid (number_at P 2 [0, 7] [3] 7 V1 R1.out rfl rfl (by decide) (by decide) (by have := HL.out; rw [List.length_append] at this; exact Nat.le_trans (Nat.le_add_left _ _) this) HAB.out.right)
  try rw [show ((2 : Nat) : Int) = 2 from rfl] at hn2
  go_wp2_with fail
  refine hn2.out.mono ?_
  rintro e V2 ⟨rfl, hrb, hg⟩
  have R2 := hid hrb
  have A2 := hid (row_grown A1.out hg hNP)
  have G2 := hid (grownBy_trans G1.out hg)
  clear hrb hg hn2 A1 R1 G1
  have c0 : V2.cell? ⟨N, 0, none⟩ = some (.int .i64 0) := by rw [cell_of_row _ _ _ _ _ _ A2.out]; rfl
  have fz0 := frozen_row A2.out 0
  obtain ⟨m1, m2⟩ := set_row (cs' := #[.int .i64 6, .int .i64 0, .string { data := #[] }, .int .i64 0, .int .i64 0, .int .i64 0, .slice none 0 0, .slice none 0 0, .int .i64 0, .int .i64 0]) A2.out 0 (.int .i64 6) rfl
  have c1 : (V2.setCell ⟨N, 0, none⟩ (.int .i64 6)).cell? ⟨N, 1, none⟩ = some (.int .i64 0) := by rw [cell_of_row _ _ _ _ _ _ m1]; rfl
  have fz1 := frozen_row m1 1
  obtain ⟨l1, l2⟩ := set_row (cs' := #[.int .i64 6, .int .i64 7, .string { data := #[] }, .int .i64 0, .int .i64 0, .int .i64 0, .slice none 0 0, .slice none 0 0, .int .i64 0, .int .i64 0]) m1 1 (.int .i64 7) rfl
  have A3 := hid l1
  have R3 := hid ((R2.out.other m2 A2.out (by decide) (by decide)).other l2 m1 (by decide) (by decide))
  have G3 := hid (grownBy_new G2.out (grownBy_trans m2 l2) hNw)
  clear m1 m2 l1 l2 A2 R2 G2
  go_wp2_with fail
  refine hK1.out _ _ ?_
  clear c0 c1 fz0 fz1
  generalize (V2.setCell ⟨N, 0, none⟩ (.int .i64 6)).setCell ⟨N, 1, none⟩ (.int .i64 7) = V3 at *
  have hN3 := row_lt A3.out
  refine wp_seq_k (fun K2 hK2 => ?_)
  have n0 : V3.cell? ⟨N, 0, none⟩ = some (.int .i64 6) := by rw [cell_of_row _ _ _ _ _ _ A3.out]; rfl
  refine wp_seq_k (fun K3 hK3 => ?_)
  go_wp2_with fail
  refine hK3.out _ _ ?_
  clear n0
  refine wp_block ?_
  refine wp_seq_k (fun T1 hT1 => ?_)
  go_wp2_with fail
  refine hT1.out _ _ ?_
  refine wp_cond_false rfl ?_
  refine wp_seq_k (fun T2 hT2 => ?_)
  go_wp2_with fail
  refine hT2.out _ _ ?_
  refine wp_cond_false rfl ?_
  refine wp_seq_k (fun T3 hT3 => ?_)
  go_wp2_with fail
  refine hT3.out _ _ ?_
  refine wp_cond_false rfl ?_
  refine wp_seq_k (fun T4 hT4 => ?_)
  go_wp2_with fail
  refine hT4.out _ _ ?_
  refine wp_cond_false rfl ?_
  refine wp_seq_k (fun T5 hT5 => ?_)
  go_wp2_with fail
  refine hT5.out _ _ ?_
  refine wp_cond_false rfl ?_
  refine wp_seq_k (fun T6 hT6 => ?_)
  go_wp2_with fail
  refine hT6.out _ _ ?_
  refine wp_cond_true rfl ?_
  have hn3 := hid (number_at P 1 [3] [] 3 V3 R3.out rfl rfl (by decide) (by decide) (by decide) (fun x hx => by rw [List.append_nil, List.mem_singleton] at hx; subst hx; decide))
  try rw [show ((1 : Nat) : Int) = 1 from rfl] at hn3
  go_wp2_with fail
  refine hn3.out.mono ?_
  rintro e V4 ⟨rfl, hrb, hg⟩
  have R4 := hid hrb
  have A4 := hid (row_grown A3.out hg hNP)
  have G4 := hid (grownBy_trans G3.out hg)
  clear hrb hg hn3 A3 R3 G3
  have c0 : V4.cell? ⟨N, 8, none⟩ = some (.int .i64 0) := by rw [cell_of_row _ _ _ _ _ _ A4.out]; rfl
  have fz0 := frozen_row A4.out 8
  obtain ⟨m1, m2⟩ := set_row (cs' := #[.int .i64 6, .int .i64 7, .string { data := #[] }, .int .i64 0, .int .i64 0, .int .i64 0, .slice none 0 0, .slice none 0 0, .int .i64 3, .int .i64 0]) A4.out 8 (.int .i64 3) rfl
  have A5 := hid m1
  have R5 := hid (R4.out.other m2 A4.out (by decide) (by decide))
  have G5 := hid (grownBy_new G4.out m2 hNw)
  clear m1 m2 A4 R4 G4
  go_wp2_with fail
  clear c0 fz0
  generalize V4.setCell ⟨N, 8, none⟩ (.int .i64 3) = V5 at *
  refine hK2.out _ _ ?_
  have hsz : (ncl D ⟨.se, none, 0⟩).toArray.size = 10 := rfl
  obtain ⟨cs, hcs⟩ : ∃ cs, cs = (ncl D ⟨.se, none, 0⟩).toArray := ⟨_, rfl⟩
  have AE : Hid (V5.heap[N]? = some (.cells cs 60)) := hid (by rw [hcs]; exact A5.out)
  rw [← hcs] at hsz
  have hone : cs.all (fun x => x.oneCell') = true := by rw [hcs]; unfold ncl ncI; simp [Value.oneCell', ndata, ngaps]
  have Hcs := hid hcs
  clear hcs
  have AE0 := AE.out
  refine wp_seq_k (fun K9 hK9 => ?_)
  obtain ⟨z1, z2⟩ := set_whole (cs' := cs) AE.out
  have RE := hid (R5.out.other z2 AE.out (by decide) (by decide))
  have GE := hid (grownBy_new G5.out z2 hNw)
  have ME := hid ((show NVM D V5 ⟨.se, none, 0⟩ from trivial).stays (Stays.ofSet z2 AE.out (by decide)) (Stays.ofSet z2 AE.out (by decide)))
  have ZE := hid z1
  go_wp2_with (first | with_reducible refine wpList_load_row (o := ⟨some 69, _, _, _, _, _⟩) rfl 60 _ rfl N rfl 60 _ _ _ AE0 Try.underlying60 rfl (by rw [hsz]; kernel_rfl) ?_ | with_reducible refine at_store 60 ?_)
  unfold Hid
  refine wpList_store_row rfl 60 _ _ rfl N cs rfl rfl 60 _ AE.out (by rw [hsz]; try rfl) (by rw [hsz]; try rfl) hone ?_
  clear z1 z2 AE AE0 hone
  generalize V5.setRow N _ = VE at *
  go_wp2_with fail
  refine hK9.out _ _ ?_
  go_wp2_with fail
  refine bodyPost_ret (results_cell1 (fn := Try.f49) rfl _ VE N 60 _ _ rfl ZE.out (by kernel_rfl) (by rw [hsz]; kernel_rfl)) rfl ?_
  exact ⟨⟨none, 0, by rw [Hcs.out], ME.out⟩, RE.out, GE.out⟩
set_option maxRecDepth 1000000 in
set_option maxHeartbeats 8000000 in
theorem note_sd (D : DP) (hD : DOk D) (P : Nat) (w : World) (h : RB w P (nby D (.sd))) :
    Calls Try.prog 49 #[.pointer (some ⟨P, 0, none⟩)] w fun e w' => NoteR D w w' P (.sd) e := by
  have hF := hD.P.F
  have hfl := hD.len
  have hds := hD.s
  have hP := h.lt
  have hab := nby_all D hD .sd trivial
  have hlen : (nby D (.sd)).length ≤ 100000 := (by show 3 + 1 ≤ _; omega)
  have bN := below_alloc w (.cells #[.int .i64 0, .int .i64 0, .string { data := #[] }, .int .i64 0, .int .i64 0, .int .i64 0, .slice none 0 0, .slice none 0 0, .int .i64 0, .int .i64 0] 60)
  have AN := hid (heap_alloc_new w (.cells #[.int .i64 0, .int .i64 0, .string { data := #[] }, .int .i64 0, .int .i64 0, .int .i64 0, .slice none 0 0, .slice none 0 0, .int .i64 0, .int .i64 0] 60))
  have R0 := hid (show RB _ P ([6] ++ ([0, 7] ++ [5])) from h.below bN)
  have hg0 := grownBy_of_below bN (some P)
  have G0 := hid hg0
  have HAB := hid (show AllB ([6] ++ ([0, 7] ++ [5])) from hab)
  have HL := hid (show ([6] ++ ([0, 7] ++ [5])).length ≤ 100000 from hlen)
  clear h bN hg0 hab hlen
  go_enter Try.func49, Try.ntmps49
  refine wp_seq_k (fun K0 hK0 => ?_)
  go_wp2_with fail
  refine hK0.out _ _ ?_
  obtain ⟨N, hN⟩ : ∃ N, N = w.heap.size := ⟨_, rfl⟩
  have hNP : N ≠ P := by omega
  have hNw : w.heap.size ≤ N := by omega
  rw [← hN] at AN ⊢
  clear hN
  generalize w.alloc (.cells #[.int .i64 0, .int .i64 0, .string { data := #[] }, .int .i64 0, .int .i64 0, .int .i64 0, .slice none 0 0, .slice none 0 0, .int .i64 0, .int .i64 0] 60) = V at *
  have hn1 := hid (number_at P 1 [6] ([0, 7] ++ [5]) 6 V R0.out rfl rfl (by decide) (by decide) HL.out HAB.out)
  try rw [show ((1 : Nat) : Int) = 1 from rfl] at hn1
  refine wp_seq_k (fun K1 hK1 => ?_)
  go_wp2_with fail
  refine hn1.out.mono ?_
  rintro e V1 ⟨rfl, hrb, hg⟩
  have R1 := hid hrb
  have A1 := hid (row_grown AN.out hg hNP)
  have G1 := hid (grownBy_trans G0.out hg)
  clear hrb hg hn1 AN R0 G0
  have hn2 := hid (number_at P 2 [0, 7] [5] 7 V1 R1.out rfl rfl (by decide) (by decide) (by have := HL.out; rw [List.length_append] at this; exact Nat.le_trans (Nat.le_add_left _ _) this) HAB.out.right)
  try rw [show ((2 : Nat) : Int) = 2 from rfl] at hn2
  go_wp2_with fail
  refine hn2.out.mono ?_
  rintro e V2 ⟨rfl, hrb, hg⟩
  have R2 := hid hrb
  have A2 := hid (row_grown A1.out hg hNP)
  have G2 := hid (grownBy_trans G1.out hg)
  clear hrb hg hn2 A1 R1 G1
  have c0 : V2.cell? ⟨N, 0, none⟩ = some (.int .i64 0) := by rw [cell_of_row _ _ _ _ _ _ A2.out]; rfl
  have fz0 := frozen_row A2.out 0
  obtain ⟨m1, m2⟩ := set_row (cs' := #[.int .i64 6, .int .i64 0, .string { data := #[] }, .int .i64 0, .int .i64 0, .int .i64 0, .slice none 0 0, .slice none 0 0, .int .i64 0, .int .i64 0]) A2.out 0 (.int .i64 6) rfl
  have c1 : (V2.setCell ⟨N, 0, none⟩ (.int .i64 6)).cell? ⟨N, 1, none⟩ = some (.int .i64 0) := by rw [cell_of_row _ _ _ _ _ _ m1]; rfl
  have fz1 := frozen_row m1 1
  obtain ⟨l1, l2⟩ := set_row (cs' := #[.int .i64 6, .int .i64 7, .string { data := #[] }, .int .i64 0, .int .i64 0, .int .i64 0, .slice none 0 0, .slice none 0 0, .int .i64 0, .int .i64 0]) m1 1 (.int .i64 7) rfl
  have A3 := hid l1
  have R3 := hid ((R2.out.other m2 A2.out (by decide) (by decide)).other l2 m1 (by decide) (by decide))
  have G3 := hid (grownBy_new G2.out (grownBy_trans m2 l2) hNw)
  clear m1 m2 l1 l2 A2 R2 G2
  go_wp2_with fail
  refine hK1.out _ _ ?_
  clear c0 c1 fz0 fz1
  generalize (V2.setCell ⟨N, 0, none⟩ (.int .i64 6)).setCell ⟨N, 1, none⟩ (.int .i64 7) = V3 at *
  have hN3 := row_lt A3.out
  refine wp_seq_k (fun K2 hK2 => ?_)
  have n0 : V3.cell? ⟨N, 0, none⟩ = some (.int .i64 6) := by rw [cell_of_row _ _ _ _ _ _ A3.out]; rfl
  refine wp_seq_k (fun K3 hK3 => ?_)
  go_wp2_with fail
  refine hK3.out _ _ ?_
  clear n0
  refine wp_block ?_
  refine wp_seq_k (fun T1 hT1 => ?_)
  go_wp2_with fail
  refine hT1.out _ _ ?_
  refine wp_cond_false rfl ?_
  refine wp_seq_k (fun T2 hT2 => ?_)
  go_wp2_with fail
  refine hT2.out _ _ ?_
  refine wp_cond_false rfl ?_
  refine wp_seq_k (fun T3 hT3 => ?_)
  go_wp2_with fail
  refine hT3.out _ _ ?_
  refine wp_cond_false rfl ?_
  refine wp_seq_k (fun T4 hT4 => ?_)
  go_wp2_with fail
  refine hT4.out _ _ ?_
  refine wp_cond_false rfl ?_
  refine wp_seq_k (fun T5 hT5 => ?_)
  go_wp2_with fail
  refine hT5.out _ _ ?_
  refine wp_cond_false rfl ?_
  refine wp_seq_k (fun T6 hT6 => ?_)
  go_wp2_with fail
  refine hT6.out _ _ ?_
  refine wp_cond_true rfl ?_
  have hn3 := hid (number_at P 1 [5] [] 5 V3 R3.out rfl rfl (by decide) (by decide) (by decide) (fun x hx => by rw [List.append_nil, List.mem_singleton] at hx; subst hx; decide))
  try rw [show ((1 : Nat) : Int) = 1 from rfl] at hn3
  go_wp2_with fail
  refine hn3.out.mono ?_
  rintro e V4 ⟨rfl, hrb, hg⟩
  have R4 := hid hrb
  have A4 := hid (row_grown A3.out hg hNP)
  have G4 := hid (grownBy_trans G3.out hg)
  clear hrb hg hn3 A3 R3 G3
  have c0 : V4.cell? ⟨N, 8, none⟩ = some (.int .i64 0) := by rw [cell_of_row _ _ _ _ _ _ A4.out]; rfl
  have fz0 := frozen_row A4.out 8
  obtain ⟨m1, m2⟩ := set_row (cs' := #[.int .i64 6, .int .i64 7, .string { data := #[] }, .int .i64 0, .int .i64 0, .int .i64 0, .slice none 0 0, .slice none 0 0, .int .i64 5, .int .i64 0]) A4.out 8 (.int .i64 5) rfl
  have A5 := hid m1
  have R5 := hid (R4.out.other m2 A4.out (by decide) (by decide))
  have G5 := hid (grownBy_new G4.out m2 hNw)
  clear m1 m2 A4 R4 G4
  go_wp2_with fail
  clear c0 fz0
  generalize V4.setCell ⟨N, 8, none⟩ (.int .i64 5) = V5 at *
  refine hK2.out _ _ ?_
  have hsz : (ncl D ⟨.sd, none, 0⟩).toArray.size = 10 := rfl
  obtain ⟨cs, hcs⟩ : ∃ cs, cs = (ncl D ⟨.sd, none, 0⟩).toArray := ⟨_, rfl⟩
  have AE : Hid (V5.heap[N]? = some (.cells cs 60)) := hid (by rw [hcs]; exact A5.out)
  rw [← hcs] at hsz
  have hone : cs.all (fun x => x.oneCell') = true := by rw [hcs]; unfold ncl ncI; simp [Value.oneCell', ndata, ngaps]
  have Hcs := hid hcs
  clear hcs
  have AE0 := AE.out
  refine wp_seq_k (fun K9 hK9 => ?_)
  obtain ⟨z1, z2⟩ := set_whole (cs' := cs) AE.out
  have RE := hid (R5.out.other z2 AE.out (by decide) (by decide))
  have GE := hid (grownBy_new G5.out z2 hNw)
  have ME := hid ((show NVM D V5 ⟨.sd, none, 0⟩ from trivial).stays (Stays.ofSet z2 AE.out (by decide)) (Stays.ofSet z2 AE.out (by decide)))
  have ZE := hid z1
  go_wp2_with (first | with_reducible refine wpList_load_row (o := ⟨some 69, _, _, _, _, _⟩) rfl 60 _ rfl N rfl 60 _ _ _ AE0 Try.underlying60 rfl (by rw [hsz]; kernel_rfl) ?_ | with_reducible refine at_store 60 ?_)
  unfold Hid
  refine wpList_store_row rfl 60 _ _ rfl N cs rfl rfl 60 _ AE.out (by rw [hsz]; try rfl) (by rw [hsz]; try rfl) hone ?_
  clear z1 z2 AE AE0 hone
  generalize V5.setRow N _ = VE at *
  go_wp2_with fail
  refine hK9.out _ _ ?_
  go_wp2_with fail
  refine bodyPost_ret (results_cell1 (fn := Try.f49) rfl _ VE N 60 _ _ rfl ZE.out (by kernel_rfl) (by rw [hsz]; kernel_rfl)) rfl ?_
  exact ⟨⟨none, 0, by rw [Hcs.out], ME.out⟩, RE.out, GE.out⟩
set_option maxRecDepth 1000000 in
set_option maxHeartbeats 8000000 in
theorem note_ne (D : DP) (hD : DOk D) (P : Nat) (w : World) (h : RB w P (nby D (.ne))) :
    Calls Try.prog 49 #[.pointer (some ⟨P, 0, none⟩)] w fun e w' => NoteR D w w' P (.ne) e := by
  have hF := hD.P.F
  have hfl := hD.len
  have hds := hD.s
  have hP := h.lt
  have hab := nby_all D hD .ne trivial
  have hlen : (nby D (.ne)).length ≤ 100000 := (by show 3 + (4 + 4) ≤ _; omega)
  have bN := below_alloc w (.cells #[.int .i64 0, .int .i64 0, .string { data := #[] }, .int .i64 0, .int .i64 0, .int .i64 0, .slice none 0 0, .slice none 0 0, .int .i64 0, .int .i64 0] 60)
  have AN := hid (heap_alloc_new w (.cells #[.int .i64 0, .int .i64 0, .string { data := #[] }, .int .i64 0, .int .i64 0, .int .i64 0, .slice none 0 0, .slice none 0 0, .int .i64 0, .int .i64 0] 60))
  have R0 := hid (show RB _ P ([3] ++ ([0, 7] ++ (be4 D.P.F ++ be4 D.s))) from h.below bN)
  have hg0 := grownBy_of_below bN (some P)
  have G0 := hid hg0
  have HAB := hid (show AllB ([3] ++ ([0, 7] ++ (be4 D.P.F ++ be4 D.s))) from hab)
  have HL := hid (show ([3] ++ ([0, 7] ++ (be4 D.P.F ++ be4 D.s))).length ≤ 100000 from hlen)
  clear h bN hg0 hab hlen
  go_enter Try.func49, Try.ntmps49
  refine wp_seq_k (fun K0 hK0 => ?_)
  go_wp2_with fail
  refine hK0.out _ _ ?_
  obtain ⟨N, hN⟩ : ∃ N, N = w.heap.size := ⟨_, rfl⟩
  have hNP : N ≠ P := by omega
  have hNw : w.heap.size ≤ N := by omega
  rw [← hN] at AN ⊢
  clear hN
  generalize w.alloc (.cells #[.int .i64 0, .int .i64 0, .string { data := #[] }, .int .i64 0, .int .i64 0, .int .i64 0, .slice none 0 0, .slice none 0 0, .int .i64 0, .int .i64 0] 60) = V at *
  have hn1 := hid (number_at P 1 [3] ([0, 7] ++ (be4 D.P.F ++ be4 D.s)) 3 V R0.out rfl rfl (by decide) (by decide) HL.out HAB.out)
  try rw [show ((1 : Nat) : Int) = 1 from rfl] at hn1
  refine wp_seq_k (fun K1 hK1 => ?_)
  go_wp2_with fail
  refine hn1.out.mono ?_
  rintro e V1 ⟨rfl, hrb, hg⟩
  have R1 := hid hrb
  have A1 := hid (row_grown AN.out hg hNP)
  have G1 := hid (grownBy_trans G0.out hg)
  clear hrb hg hn1 AN R0 G0
  have hn2 := hid (number_at P 2 [0, 7] (be4 D.P.F ++ be4 D.s) 7 V1 R1.out rfl rfl (by decide) (by decide) (by have := HL.out; rw [List.length_append] at this; exact Nat.le_trans (Nat.le_add_left _ _) this) HAB.out.right)
  try rw [show ((2 : Nat) : Int) = 2 from rfl] at hn2
  go_wp2_with fail
  refine hn2.out.mono ?_
  rintro e V2 ⟨rfl, hrb, hg⟩
  have R2 := hid hrb
  have A2 := hid (row_grown A1.out hg hNP)
  have G2 := hid (grownBy_trans G1.out hg)
  clear hrb hg hn2 A1 R1 G1
  have c0 : V2.cell? ⟨N, 0, none⟩ = some (.int .i64 0) := by rw [cell_of_row _ _ _ _ _ _ A2.out]; rfl
  have fz0 := frozen_row A2.out 0
  obtain ⟨m1, m2⟩ := set_row (cs' := #[.int .i64 3, .int .i64 0, .string { data := #[] }, .int .i64 0, .int .i64 0, .int .i64 0, .slice none 0 0, .slice none 0 0, .int .i64 0, .int .i64 0]) A2.out 0 (.int .i64 3) rfl
  have c1 : (V2.setCell ⟨N, 0, none⟩ (.int .i64 3)).cell? ⟨N, 1, none⟩ = some (.int .i64 0) := by rw [cell_of_row _ _ _ _ _ _ m1]; rfl
  have fz1 := frozen_row m1 1
  obtain ⟨l1, l2⟩ := set_row (cs' := #[.int .i64 3, .int .i64 7, .string { data := #[] }, .int .i64 0, .int .i64 0, .int .i64 0, .slice none 0 0, .slice none 0 0, .int .i64 0, .int .i64 0]) m1 1 (.int .i64 7) rfl
  have A3 := hid l1
  have R3 := hid ((R2.out.other m2 A2.out (by decide) (by decide)).other l2 m1 (by decide) (by decide))
  have G3 := hid (grownBy_new G2.out (grownBy_trans m2 l2) hNw)
  clear m1 m2 l1 l2 A2 R2 G2
  go_wp2_with fail
  refine hK1.out _ _ ?_
  clear c0 c1 fz0 fz1
  generalize (V2.setCell ⟨N, 0, none⟩ (.int .i64 3)).setCell ⟨N, 1, none⟩ (.int .i64 7) = V3 at *
  have hN3 := row_lt A3.out
  refine wp_seq_k (fun K2 hK2 => ?_)
  have n0 : V3.cell? ⟨N, 0, none⟩ = some (.int .i64 3) := by rw [cell_of_row _ _ _ _ _ _ A3.out]; rfl
  refine wp_seq_k (fun K3 hK3 => ?_)
  go_wp2_with fail
  refine hK3.out _ _ ?_
  clear n0
  refine wp_block ?_
  refine wp_seq_k (fun T1 hT1 => ?_)
  go_wp2_with fail
  refine hT1.out _ _ ?_
  refine wp_cond_false rfl ?_
  refine wp_seq_k (fun T2 hT2 => ?_)
  go_wp2_with fail
  refine hT2.out _ _ ?_
  refine wp_cond_false rfl ?_
  refine wp_seq_k (fun T3 hT3 => ?_)
  go_wp2_with fail
  refine hT3.out _ _ ?_
  refine wp_cond_true rfl ?_
  have HA3 := hid (HAB.out.right.right)
  have hn3 := hid (number_at P 4 (be4 D.P.F) (be4 D.s) (D.P.F : Int) V3 R3.out rfl (by rw [numB_be4 _ (by omega)]) (by decide) (by decide) (by show 4 + 4 ≤ _; omega) HA3.out)
  try rw [show ((4 : Nat) : Int) = 4 from rfl] at hn3
  go_wp2_with fail
  refine hn3.out.mono ?_
  rintro e V4 ⟨rfl, hrb, hg⟩
  have R4 := hid hrb
  have A4 := hid (row_grown A3.out hg hNP)
  have G4 := hid (grownBy_trans G3.out hg)
  clear hrb hg hn3 A3 R3 G3
  have hn4 := hid (number_at P 4 (be4 D.s) [] (D.s : Int) V4 (by rw [List.append_nil]; exact R4.out) rfl (by rw [numB_be4 _ (by omega)]) (by decide) (by decide) (by show 4 ≤ _; omega) (by rw [List.append_nil]; exact be4_all _))
  try rw [show ((4 : Nat) : Int) = 4 from rfl] at hn4
  go_wp2_with fail
  refine hn4.out.mono ?_
  rintro e V5 ⟨rfl, hrb, hg⟩
  have R5 := hid hrb
  have A5 := hid (row_grown A4.out hg hNP)
  have G5 := hid (grownBy_trans G4.out hg)
  clear hrb hg hn4 A4 R4 G4
  have c0 : V5.cell? ⟨N, 3, none⟩ = some (.int .i64 0) := by rw [cell_of_row _ _ _ _ _ _ A5.out]; rfl
  have fz0 := frozen_row A5.out 3
  obtain ⟨m1, m2⟩ := set_row (cs' := #[.int .i64 3, .int .i64 7, .string { data := #[] }, .int .i64 (D.P.F : Int), .int .i64 0, .int .i64 0, .slice none 0 0, .slice none 0 0, .int .i64 0, .int .i64 0]) A5.out 3 (.int .i64 (D.P.F : Int)) rfl
  have c1 : (V5.setCell ⟨N, 3, none⟩ (.int .i64 (D.P.F : Int))).cell? ⟨N, 4, none⟩ = some (.int .i64 0) := by rw [cell_of_row _ _ _ _ _ _ m1]; rfl
  have fz1 := frozen_row m1 4
  obtain ⟨l1, l2⟩ := set_row (cs' := #[.int .i64 3, .int .i64 7, .string { data := #[] }, .int .i64 (D.P.F : Int), .int .i64 (D.s : Int), .int .i64 0, .slice none 0 0, .slice none 0 0, .int .i64 0, .int .i64 0]) m1 4 (.int .i64 (D.s : Int)) rfl
  have A6 := hid l1
  have R6 := hid ((R5.out.other m2 A5.out (by decide) (by decide)).other l2 m1 (by decide) (by decide))
  have G6 := hid (grownBy_new G5.out (grownBy_trans m2 l2) hNw)
  clear m1 m2 l1 l2 A5 R5 G5
  go_wp2_with fail
  clear c0 c1 fz0 fz1
  generalize (V5.setCell ⟨N, 3, none⟩ (.int .i64 (D.P.F : Int))).setCell ⟨N, 4, none⟩ (.int .i64 (D.s : Int)) = V6 at *
  refine hK2.out _ _ ?_
  have hsz : (ncl D ⟨.ne, none, 0⟩).toArray.size = 10 := rfl
  obtain ⟨cs, hcs⟩ : ∃ cs, cs = (ncl D ⟨.ne, none, 0⟩).toArray := ⟨_, rfl⟩
  have AE : Hid (V6.heap[N]? = some (.cells cs 60)) := hid (by rw [hcs]; exact A6.out)
  rw [← hcs] at hsz
  have hone : cs.all (fun x => x.oneCell') = true := by rw [hcs]; unfold ncl ncI; simp [Value.oneCell', ndata, ngaps]
  have Hcs := hid hcs
  clear hcs
  have AE0 := AE.out
  refine wp_seq_k (fun K9 hK9 => ?_)
  obtain ⟨z1, z2⟩ := set_whole (cs' := cs) AE.out
  have RE := hid (R6.out.other z2 AE.out (by decide) (by decide))
  have GE := hid (grownBy_new G6.out z2 hNw)
  have ME := hid ((show NVM D V6 ⟨.ne, none, 0⟩ from trivial).stays (Stays.ofSet z2 AE.out (by decide)) (Stays.ofSet z2 AE.out (by decide)))
  have ZE := hid z1
  go_wp2_with (first | with_reducible refine wpList_load_row (o := ⟨some 69, _, _, _, _, _⟩) rfl 60 _ rfl N rfl 60 _ _ _ AE0 Try.underlying60 rfl (by rw [hsz]; kernel_rfl) ?_ | with_reducible refine at_store 60 ?_)
  unfold Hid
  refine wpList_store_row rfl 60 _ _ rfl N cs rfl rfl 60 _ AE.out (by rw [hsz]; try rfl) (by rw [hsz]; try rfl) hone ?_
  clear z1 z2 AE AE0 hone
  generalize V6.setRow N _ = VE at *
  go_wp2_with fail
  refine hK9.out _ _ ?_
  go_wp2_with fail
  refine bodyPost_ret (results_cell1 (fn := Try.f49) rfl _ VE N 60 _ _ rfl ZE.out (by kernel_rfl) (by rw [hsz]; kernel_rfl)) rfl ?_
  exact ⟨⟨none, 0, by rw [Hcs.out], ME.out⟩, RE.out, GE.out⟩
set_option maxRecDepth 1000000 in
set_option maxHeartbeats 8000000 in
theorem note_np (D : DP) (hD : DOk D) (x y : Nat) (P : Nat) (w : World) (hxy : x < y) (hy : y ≤ D.P.F) (h : RB w P (nby D (.np x y))) :
    Calls Try.prog 49 #[.pointer (some ⟨P, 0, none⟩)] w fun e w' => NoteR D w w' P (.np x y) e := by
  have hF := hD.P.F
  have hfl := hD.len
  have hds := hD.s
  have hP := h.lt
  have hab := nby_all D hD (.np x y) trivial
  have hlen : (nby D (.np x y)).length ≤ 100000 := (by show ([2, 0, 7] ++ (be4 x ++ sub D.fl x y)).length ≤ _; rw [List.length_append, List.length_append, be4_len, sub_len (by omega)]; show 3 + (4 + (y - x)) ≤ _; omega)
  have bN := below_alloc w (.cells #[.int .i64 0, .int .i64 0, .string { data := #[] }, .int .i64 0, .int .i64 0, .int .i64 0, .slice none 0 0, .slice none 0 0, .int .i64 0, .int .i64 0] 60)
  have AN := hid (heap_alloc_new w (.cells #[.int .i64 0, .int .i64 0, .string { data := #[] }, .int .i64 0, .int .i64 0, .int .i64 0, .slice none 0 0, .slice none 0 0, .int .i64 0, .int .i64 0] 60))
  have R0 := hid (show RB _ P ([2] ++ ([0, 7] ++ (be4 x ++ sub D.fl x y))) from h.below bN)
  have hg0 := grownBy_of_below bN (some P)
  have G0 := hid hg0
  have HAB := hid (show AllB ([2] ++ ([0, 7] ++ (be4 x ++ sub D.fl x y))) from hab)
  have HL := hid (show ([2] ++ ([0, 7] ++ (be4 x ++ sub D.fl x y))).length ≤ 100000 from hlen)
  clear h bN hg0 hab hlen
  go_enter Try.func49, Try.ntmps49
  refine wp_seq_k (fun K0 hK0 => ?_)
  go_wp2_with fail
  refine hK0.out _ _ ?_
  obtain ⟨N, hN⟩ : ∃ N, N = w.heap.size := ⟨_, rfl⟩
  have hNP : N ≠ P := by omega
  have hNw : w.heap.size ≤ N := by omega
  rw [← hN] at AN ⊢
  clear hN
  generalize w.alloc (.cells #[.int .i64 0, .int .i64 0, .string { data := #[] }, .int .i64 0, .int .i64 0, .int .i64 0, .slice none 0 0, .slice none 0 0, .int .i64 0, .int .i64 0] 60) = V at *
  have hn1 := hid (number_at P 1 [2] ([0, 7] ++ (be4 x ++ sub D.fl x y)) 2 V R0.out rfl rfl (by decide) (by decide) HL.out HAB.out)
  try rw [show ((1 : Nat) : Int) = 1 from rfl] at hn1
  refine wp_seq_k (fun K1 hK1 => ?_)
  go_wp2_with fail
  refine hn1.out.mono ?_
  rintro e V1 ⟨rfl, hrb, hg⟩
  have R1 := hid hrb
  have A1 := hid (row_grown AN.out hg hNP)
  have G1 := hid (grownBy_trans G0.out hg)
  clear hrb hg hn1 AN R0 G0
  have hn2 := hid (number_at P 2 [0, 7] (be4 x ++ sub D.fl x y) 7 V1 R1.out rfl rfl (by decide) (by decide) (by have := HL.out; rw [List.length_append] at this; exact Nat.le_trans (Nat.le_add_left _ _) this) HAB.out.right)
  try rw [show ((2 : Nat) : Int) = 2 from rfl] at hn2
  go_wp2_with fail
  refine hn2.out.mono ?_
  rintro e V2 ⟨rfl, hrb, hg⟩
  have R2 := hid hrb
  have A2 := hid (row_grown A1.out hg hNP)
  have G2 := hid (grownBy_trans G1.out hg)
  clear hrb hg hn2 A1 R1 G1
  have c0 : V2.cell? ⟨N, 0, none⟩ = some (.int .i64 0) := by rw [cell_of_row _ _ _ _ _ _ A2.out]; rfl
  have fz0 := frozen_row A2.out 0
  obtain ⟨m1, m2⟩ := set_row (cs' := #[.int .i64 2, .int .i64 0, .string { data := #[] }, .int .i64 0, .int .i64 0, .int .i64 0, .slice none 0 0, .slice none 0 0, .int .i64 0, .int .i64 0]) A2.out 0 (.int .i64 2) rfl
  have c1 : (V2.setCell ⟨N, 0, none⟩ (.int .i64 2)).cell? ⟨N, 1, none⟩ = some (.int .i64 0) := by rw [cell_of_row _ _ _ _ _ _ m1]; rfl
  have fz1 := frozen_row m1 1
  obtain ⟨l1, l2⟩ := set_row (cs' := #[.int .i64 2, .int .i64 7, .string { data := #[] }, .int .i64 0, .int .i64 0, .int .i64 0, .slice none 0 0, .slice none 0 0, .int .i64 0, .int .i64 0]) m1 1 (.int .i64 7) rfl
  have A3 := hid l1
  have R3 := hid ((R2.out.other m2 A2.out (by decide) (by decide)).other l2 m1 (by decide) (by decide))
  have G3 := hid (grownBy_new G2.out (grownBy_trans m2 l2) hNw)
  clear m1 m2 l1 l2 A2 R2 G2
  go_wp2_with fail
  refine hK1.out _ _ ?_
  clear c0 c1 fz0 fz1
  generalize (V2.setCell ⟨N, 0, none⟩ (.int .i64 2)).setCell ⟨N, 1, none⟩ (.int .i64 7) = V3 at *
  have hN3 := row_lt A3.out
  refine wp_seq_k (fun K2 hK2 => ?_)
  have n0 : V3.cell? ⟨N, 0, none⟩ = some (.int .i64 2) := by rw [cell_of_row _ _ _ _ _ _ A3.out]; rfl
  refine wp_seq_k (fun K3 hK3 => ?_)
  go_wp2_with fail
  refine hK3.out _ _ ?_
  clear n0
  refine wp_block ?_
  refine wp_seq_k (fun T1 hT1 => ?_)
  go_wp2_with fail
  refine hT1.out _ _ ?_
  refine wp_cond_false rfl ?_
  refine wp_seq_k (fun T2 hT2 => ?_)
  go_wp2_with fail
  refine hT2.out _ _ ?_
  refine wp_cond_true rfl ?_
  have HA3 := hid (HAB.out.right.right)
  have hsl := sub_len (fl := D.fl) (x := x) (y := y) (by omega)
  have hn3 := hid (number_at P 4 (be4 x) (sub D.fl x y) (x : Int) V3 R3.out rfl (by rw [numB_be4 _ (by omega)]) (by decide) (by decide) (by rw [List.length_append, be4_len, hsl]; omega) HA3.out)
  try rw [show ((4 : Nat) : Int) = 4 from rfl] at hn3
  go_wp2_with fail
  refine hn3.out.mono ?_
  rintro e V4 ⟨rfl, hrb, hg⟩
  have R4 := hid hrb
  have A4 := hid (row_grown A3.out hg hNP)
  have G4 := hid (grownBy_trans G3.out hg)
  clear hrb hg hn3 A3 R3 G3
  have hn4 := hid (rest_ok P (sub D.fl x y) V4 R4.out (by rw [hsl]; omega) (by rw [hsl]; omega))
  have hV4N : N < V4.heap.size := row_lt A4.out
  go_wp2_with fail
  refine hn4.out.mono ?_
  rintro e V5 ⟨⟨ra, rc, rfl, ho⟩, hrb, hg⟩
  have R5 := hid hrb
  have A5 := hid (row_grown A4.out hg hNP)
  have G5 := hid (grownBy_trans G4.out hg)
  have hm := RdT.ofOwn ho
  obtain ⟨rn, hrn⟩ : ∃ rn, rn = (sub D.fl x y).length := ⟨_, rfl⟩
  rw [← hrn] at hm ⊢
  have Hrn := hid (hrn.trans hsl)
  have M5 := hid hm
  clear hrb hg hn4 A4 R4 G4 ho hm hrn hsl
  have c0 : V5.cell? ⟨N, 5, none⟩ = some (.int .i64 0) := by rw [cell_of_row _ _ _ _ _ _ A5.out]; rfl
  have fz0 := frozen_row A5.out 5
  obtain ⟨m1, m2⟩ := set_row (cs' := #[.int .i64 2, .int .i64 7, .string { data := #[] }, .int .i64 0, .int .i64 0, .int .i64 (x : Int), .slice none 0 0, .slice none 0 0, .int .i64 0, .int .i64 0]) A5.out 5 (.int .i64 (x : Int)) rfl
  have c1 : (V5.setCell ⟨N, 5, none⟩ (.int .i64 (x : Int))).cell? ⟨N, 6, none⟩ = some (.slice none 0 0) := by rw [cell_of_row _ _ _ _ _ _ m1]; rfl
  have fz1 := frozen_row m1 6
  obtain ⟨l1, l2⟩ := set_row (cs' := #[.int .i64 2, .int .i64 7, .string { data := #[] }, .int .i64 0, .int .i64 0, .int .i64 (x : Int), .slice ra rn rc, .slice none 0 0, .int .i64 0, .int .i64 0]) m1 6 (.slice ra rn rc) rfl
  have A6 := hid l1
  have R6 := hid ((R5.out.other m2 A5.out (by decide) (by decide)).other l2 m1 (by decide) (by decide))
  have G6 := hid (grownBy_new G5.out (grownBy_trans m2 l2) hNw)
  have M6 := hid ((M5.out.other m2 A5.out (by decide)).other l2 m1 (by decide))
  clear m1 m2 l1 l2 A5 R5 G5 M5
  go_wp2_with fail
  clear c0 c1 fz0 fz1
  generalize (V5.setCell ⟨N, 5, none⟩ (.int .i64 (x : Int))).setCell ⟨N, 6, none⟩ (.slice ra rn rc) = V6 at *
  rw [Hrn.out] at A6 M6
  refine hK2.out _ _ ?_
  have hsz : (ncl D ⟨.np x y, ra, rc⟩).toArray.size = 10 := rfl
  obtain ⟨cs, hcs⟩ : ∃ cs, cs = (ncl D ⟨.np x y, ra, rc⟩).toArray := ⟨_, rfl⟩
  have AE : Hid (V6.heap[N]? = some (.cells cs 60)) := hid (by rw [hcs]; exact A6.out)
  rw [← hcs] at hsz
  have hone : cs.all (fun x => x.oneCell') = true := by rw [hcs]; unfold ncl ncI; simp [Value.oneCell', ndata, ngaps]
  have Hcs := hid hcs
  clear hcs
  have AE0 := AE.out
  refine wp_seq_k (fun K9 hK9 => ?_)
  obtain ⟨z1, z2⟩ := set_whole (cs' := cs) AE.out
  have RE := hid (R6.out.other z2 AE.out (by decide) (by decide))
  have GE := hid (grownBy_new G6.out z2 hNw)
  have ME := hid ((show NVM D V6 ⟨.np x y, ra, rc⟩ from M6.out).stays (Stays.ofSet z2 AE.out (by decide)) (Stays.ofSet z2 AE.out (by decide)))
  have ZE := hid z1
  go_wp2_with (first | with_reducible refine wpList_load_row (o := ⟨some 69, _, _, _, _, _⟩) rfl 60 _ rfl N rfl 60 _ _ _ AE0 Try.underlying60 rfl (by rw [hsz]; kernel_rfl) ?_ | with_reducible refine at_store 60 ?_)
  unfold Hid
  refine wpList_store_row rfl 60 _ _ rfl N cs rfl rfl 60 _ AE.out (by rw [hsz]; try rfl) (by rw [hsz]; try rfl) hone ?_
  clear z1 z2 AE AE0 hone
  generalize V6.setRow N _ = VE at *
  go_wp2_with fail
  refine hK9.out _ _ ?_
  go_wp2_with fail
  refine bodyPost_ret (results_cell1 (fn := Try.f49) rfl _ VE N 60 _ _ rfl ZE.out (by kernel_rfl) (by rw [hsz]; kernel_rfl)) rfl ?_
  exact ⟨⟨ra, rc, by rw [Hcs.out], ME.out⟩, RE.out, GE.out⟩
set_option maxRecDepth 1000000 in
set_option maxHeartbeats 8000000 in
theorem note_nm (D : DP) (hD : DOk D) (P : Nat) (w : World) (h : RB w P (nby D (.nm))) :
    Calls Try.prog 49 #[.pointer (some ⟨P, 0, none⟩)] w fun e w' => NoteR D w w' P (.nm) e := by
  have hF := hD.P.F
  have hfl := hD.len
  have hds := hD.s
  have hP := h.lt
  have hab := nby_all D hD .nm trivial
  have hlen : (nby D (.nm)).length ≤ 100000 := (by show 3 + (4 + 3) ≤ _; omega)
  have bN := below_alloc w (.cells #[.int .i64 0, .int .i64 0, .string { data := #[] }, .int .i64 0, .int .i64 0, .int .i64 0, .slice none 0 0, .slice none 0 0, .int .i64 0, .int .i64 0] 60)
  have AN := hid (heap_alloc_new w (.cells #[.int .i64 0, .int .i64 0, .string { data := #[] }, .int .i64 0, .int .i64 0, .int .i64 0, .slice none 0 0, .slice none 0 0, .int .i64 0, .int .i64 0] 60))
  have R0 := hid (show RB _ P ([1] ++ ([0, 7] ++ (be4 D.P.F ++ [108, 111, 103]))) from h.below bN)
  have hg0 := grownBy_of_below bN (some P)
  have G0 := hid hg0
  have HAB := hid (show AllB ([1] ++ ([0, 7] ++ (be4 D.P.F ++ [108, 111, 103]))) from hab)
  have HL := hid (show ([1] ++ ([0, 7] ++ (be4 D.P.F ++ [108, 111, 103]))).length ≤ 100000 from hlen)
  clear h bN hg0 hab hlen
  go_enter Try.func49, Try.ntmps49
  refine wp_seq_k (fun K0 hK0 => ?_)
  go_wp2_with fail
  refine hK0.out _ _ ?_
  obtain ⟨N, hN⟩ : ∃ N, N = w.heap.size := ⟨_, rfl⟩
  have hNP : N ≠ P := by omega
  have hNw : w.heap.size ≤ N := by omega
  rw [← hN] at AN ⊢
  clear hN
  generalize w.alloc (.cells #[.int .i64 0, .int .i64 0, .string { data := #[] }, .int .i64 0, .int .i64 0, .int .i64 0, .slice none 0 0, .slice none 0 0, .int .i64 0, .int .i64 0] 60) = V at *
  have hn1 := hid (number_at P 1 [1] ([0, 7] ++ (be4 D.P.F ++ [108, 111, 103])) 1 V R0.out rfl rfl (by decide) (by decide) HL.out HAB.out)
  try rw [show ((1 : Nat) : Int) = 1 from rfl] at hn1
  refine wp_seq_k (fun K1 hK1 => ?_)
  go_wp2_with fail
  refine hn1.out.mono ?_
  rintro e V1 ⟨rfl, hrb, hg⟩
  have R1 := hid hrb
  have A1 := hid (row_grown AN.out hg hNP)
  have G1 := hid (grownBy_trans G0.out hg)
  clear hrb hg hn1 AN R0 G0
  have hn2 := hid (number_at P 2 [0, 7] (be4 D.P.F ++ [108, 111, 103]) 7 V1 R1.out rfl rfl (by decide) (by decide) (by have := HL.out; rw [List.length_append] at this; exact Nat.le_trans (Nat.le_add_left _ _) this) HAB.out.right)
  try rw [show ((2 : Nat) : Int) = 2 from rfl] at hn2
  go_wp2_with fail
  refine hn2.out.mono ?_
  rintro e V2 ⟨rfl, hrb, hg⟩
  have R2 := hid hrb
  have A2 := hid (row_grown A1.out hg hNP)
  have G2 := hid (grownBy_trans G1.out hg)
  clear hrb hg hn2 A1 R1 G1
  have c0 : V2.cell? ⟨N, 0, none⟩ = some (.int .i64 0) := by rw [cell_of_row _ _ _ _ _ _ A2.out]; rfl
  have fz0 := frozen_row A2.out 0
  obtain ⟨m1, m2⟩ := set_row (cs' := #[.int .i64 1, .int .i64 0, .string { data := #[] }, .int .i64 0, .int .i64 0, .int .i64 0, .slice none 0 0, .slice none 0 0, .int .i64 0, .int .i64 0]) A2.out 0 (.int .i64 1) rfl
  have c1 : (V2.setCell ⟨N, 0, none⟩ (.int .i64 1)).cell? ⟨N, 1, none⟩ = some (.int .i64 0) := by rw [cell_of_row _ _ _ _ _ _ m1]; rfl
  have fz1 := frozen_row m1 1
  obtain ⟨l1, l2⟩ := set_row (cs' := #[.int .i64 1, .int .i64 7, .string { data := #[] }, .int .i64 0, .int .i64 0, .int .i64 0, .slice none 0 0, .slice none 0 0, .int .i64 0, .int .i64 0]) m1 1 (.int .i64 7) rfl
  have A3 := hid l1
  have R3 := hid ((R2.out.other m2 A2.out (by decide) (by decide)).other l2 m1 (by decide) (by decide))
  have G3 := hid (grownBy_new G2.out (grownBy_trans m2 l2) hNw)
  clear m1 m2 l1 l2 A2 R2 G2
  go_wp2_with fail
  refine hK1.out _ _ ?_
  clear c0 c1 fz0 fz1
  generalize (V2.setCell ⟨N, 0, none⟩ (.int .i64 1)).setCell ⟨N, 1, none⟩ (.int .i64 7) = V3 at *
  have hN3 := row_lt A3.out
  refine wp_seq_k (fun K2 hK2 => ?_)
  have n0 : V3.cell? ⟨N, 0, none⟩ = some (.int .i64 1) := by rw [cell_of_row _ _ _ _ _ _ A3.out]; rfl
  refine wp_seq_k (fun K3 hK3 => ?_)
  go_wp2_with fail
  refine hK3.out _ _ ?_
  clear n0
  refine wp_block ?_
  refine wp_seq_k (fun T1 hT1 => ?_)
  go_wp2_with fail
  refine hT1.out _ _ ?_
  refine wp_cond_true rfl ?_
  have HA3 := hid (HAB.out.right.right)
  have hdr := (Below.refl V3.heap.size V3).drew
  have A4 := hid (row_below A3.out hdr)
  have R4 := hid (R3.out.below hdr)
  have G4 := hid (grownBy_trans G3.out (grownBy_of_below hdr (some P)))
  clear hdr A3 R3 G3 hN3
  refine wp_region_can_all [1, 3, 6, 8] [0, 2, 1, 5, 3, 4, 6, 7, 8] (KS2 P N) (KS2.refl P N) (fun _ _ _ h k => h.trans k) (by kernel_rfl) (by kernel_rfl) ?_
  simp only [List.map_cons, List.map_nil, List.contains_cons, List.contains_nil, List.getD_cons_zero, List.getD_cons_succ, Nat.reduceBEq, Bool.or_false, Bool.or_true]
  generalize V3.drew = U at *
  iterate 2 (refine wpL_do rfl (fun w' hw' => (by go_simp; rfl)) ?_; simp only [Act.put, List.setIfInBounds_toArray, List.set_cons_succ, List.set_cons_zero])
  have hn3 := hid (number_at P 4 (be4 D.P.F) [108, 111, 103] (D.P.F : Int) U R4.out rfl (by rw [numB_be4 _ (by omega)]) (by decide) (by decide) (by show 4 + 3 ≤ _; omega) HA3.out)
  try rw [show ((4 : Nat) : Int) = 4 from rfl] at hn3
  refine wpL_call rfl (fun K hK => ?_)
  go_wp2_with fail
  refine hn3.out.mono ?_
  rintro e U1 ⟨rfl, hrb, hg⟩
  refine hK _ _ (KS2.ofP hg) ?_
  clear hK K
  try simp only [Act.put, List.setIfInBounds_toArray, List.set_cons_succ, List.set_cons_zero]
  have R5 := hid hrb
  have A5 := hid (row_grown A4.out hg hNP)
  have G5 := hid (grownBy_trans G4.out hg)
  clear hrb hg hn3 A4 R4 G4
  iterate 1 (refine wpL_do rfl (fun w' hw' => (by go_simp; rfl)) ?_; simp only [Act.put, List.setIfInBounds_toArray, List.set_cons_succ, List.set_cons_zero])
  have hn4 := hid (rest_ok P [108, 111, 103] U1 R5.out (by decide) (by decide))
  refine wpL_call rfl (fun K hK => ?_)
  go_wp2_with fail
  refine hn4.out.mono ?_
  rintro e U2 ⟨⟨ra, rc, he, ho⟩, hrb, hg⟩
  have he' : e = .returned (.slice ra 3 rc) := he
  subst he'
  refine hK _ _ (KS2.ofP hg) ?_
  clear hK K he
  try simp only [Act.put, List.setIfInBounds_toArray, List.set_cons_succ, List.set_cons_zero]
  have R6 := hid hrb
  have A6 := hid (row_grown A5.out hg hNP)
  have G6 := hid (grownBy_trans G5.out hg)
  have hrd : RdT 5 U2 ra 3 rc (vb [108, 111, 103]) := RdT.ofOwn ho
  have hsg : ∀ w', KS2 P N U2 w' → (convert 22 9 (.slice ra 3 rc)).run Try.prog w' = .ok (.string logS) w' := fun w' hw => by
    obtain ⟨b, off, cs, ha, hr⟩ := hrd.ty (by decide)
    subst ha
    have hbP : b ≠ P := fun e => by
      obtain ⟨a2, c2, h1, _⟩ := hrb.ex
      subst e
      rw [hr] at h1
      injection h1 with h1
      injection h1 with _ h1
      cases h1
    have hbN : b ≠ N := fun e => by
      have h1 := A6.out
      rw [← e, hr] at h1
      injection h1 with h1
      injection h1 with _ h1
      cases h1
    have hb := hw.2 b (row_lt hr) hbP hbN
    have hrd2 : Rd w' (some ⟨b, off, none⟩) 3 rc (vb [108, 111, 103]) := ⟨hrd.rd.len, hrd.rd.le, hrd.rd.max, hrd.rd.isnil, fun h0 => by
      obtain ⟨b', off', ha, hlt, hc⟩ := hrd.rd.mem h0
      cases ha
      exact ⟨b, off, rfl, Nat.lt_of_lt_of_le hlt hw.1, fun j hj => (World.cell?_of_block (a := ⟨b, off + j, none⟩) hb).trans (hc j hj)⟩⟩
    have h := run_str (P := Try.prog) (w := w') 22 5 9 Try.underlying22 Try.underlying5 Try.underlying9 hrd2
    rw [log_str] at h
    exact h
  clear hrb hg hn4 A5 R5 G5 ho hrd
  refine wpL_do rfl (fun w' hw' => (by have := hsg w' hw'; go_simp; rfl)) ?_
  simp only [Act.put, List.setIfInBounds_toArray, List.set_cons_succ, List.set_cons_zero]
  clear hsg
  obtain ⟨lS, hlS⟩ : ∃ lS, lS = logS := ⟨_, rfl⟩
  rw [← hlS]
  have HlS := hid hlS
  clear hlS
  have c0 : U2.cell? ⟨N, 3, none⟩ = some (.int .i64 0) := by rw [cell_of_row _ _ _ _ _ _ A6.out]; rfl
  have fz0 := frozen_row A6.out 3
  obtain ⟨m1, m2⟩ := set_row (cs' := #[.int .i64 1, .int .i64 7, .string { data := #[] }, .int .i64 (D.P.F : Int), .int .i64 0, .int .i64 0, .slice none 0 0, .slice none 0 0, .int .i64 0, .int .i64 0]) A6.out 3 (.int .i64 (D.P.F : Int)) rfl
  refine wpL_call rfl (fun K hK => ?_)
  go_wp2_with fail
  refine hK _ _ (KS2.ofN m2) ?_
  clear hK K c0 fz0
  try simp only [Act.put, List.setIfInBounds_toArray, List.set_cons_succ, List.set_cons_zero]
  have A7 := hid m1
  have R7 := hid (R6.out.other m2 A6.out (by decide) (by decide))
  have G7 := hid (grownBy_new G6.out m2 hNw)
  clear m1 m2 A6 R6 G6
  generalize U2.setCell ⟨N, 3, none⟩ (.int .i64 (D.P.F : Int)) = U3 at *
  iterate 1 (refine wpL_do rfl (fun w' hw' => (by go_simp; rfl)) ?_; simp only [Act.put, List.setIfInBounds_toArray, List.set_cons_succ, List.set_cons_zero])
  have c1 : U3.cell? ⟨N, 2, none⟩ = some (.string { data := #[] }) := by rw [cell_of_row _ _ _ _ _ _ A7.out]; rfl
  have fz1 := frozen_row A7.out 2
  obtain ⟨m1, m2⟩ := set_row (cs' := #[.int .i64 1, .int .i64 7, .string lS, .int .i64 (D.P.F : Int), .int .i64 0, .int .i64 0, .slice none 0 0, .slice none 0 0, .int .i64 0, .int .i64 0]) A7.out 2 (.string lS) rfl
  refine wpL_call rfl (fun K hK => ?_)
  go_wp2_with fail
  refine hK _ _ (KS2.ofN m2) ?_
  clear hK K c1 fz1
  try simp only [Act.put, List.setIfInBounds_toArray, List.set_cons_succ, List.set_cons_zero]
  have A8 := hid m1
  have R8 := hid (R7.out.other m2 A7.out (by decide) (by decide))
  have G8 := hid (grownBy_new G7.out m2 hNw)
  clear m1 m2 A7 R7 G7
  generalize U3.setCell ⟨N, 2, none⟩ (.string lS) = V6 at *
  rw [HlS.out] at A8
  refine wpL_nil ?_
  refine hK2.out _ _ ?_
  have hsz : (ncl D ⟨.nm, none, 0⟩).toArray.size = 10 := rfl
  obtain ⟨cs, hcs⟩ : ∃ cs, cs = (ncl D ⟨.nm, none, 0⟩).toArray := ⟨_, rfl⟩
  have AE : Hid (V6.heap[N]? = some (.cells cs 60)) := hid (by rw [hcs]; exact A8.out)
  rw [← hcs] at hsz
  have hone : cs.all (fun x => x.oneCell') = true := by rw [hcs]; unfold ncl ncI; simp [Value.oneCell', ndata, ngaps]
  have Hcs := hid hcs
  clear hcs
  have AE0 := AE.out
  refine wp_seq_k (fun K9 hK9 => ?_)
  obtain ⟨z1, z2⟩ := set_whole (cs' := cs) AE.out
  have RE := hid (R8.out.other z2 AE.out (by decide) (by decide))
  have GE := hid (grownBy_new G8.out z2 hNw)
  have ME := hid ((show NVM D V6 ⟨.nm, none, 0⟩ from trivial).stays (Stays.ofSet z2 AE.out (by decide)) (Stays.ofSet z2 AE.out (by decide)))
  have ZE := hid z1
  go_wp2_with (first | with_reducible refine wpList_load_row (o := ⟨some 69, _, _, _, _, _⟩) rfl 60 _ rfl N rfl 60 _ _ _ AE0 Try.underlying60 rfl (by rw [hsz]; kernel_rfl) ?_ | with_reducible refine at_store 60 ?_)
  unfold Hid
  refine wpList_store_row rfl 60 _ _ rfl N cs rfl rfl 60 _ AE.out (by rw [hsz]; try rfl) (by rw [hsz]; try rfl) hone ?_
  clear z1 z2 AE AE0 hone
  generalize V6.setRow N _ = VE at *
  go_wp2_with fail
  refine hK9.out _ _ ?_
  go_wp2_with fail
  refine bodyPost_ret (results_cell1 (fn := Try.f49) rfl _ VE N 60 _ _ rfl ZE.out (by kernel_rfl) (by rw [hsz]; kernel_rfl)) rfl ?_
  exact ⟨⟨none, 0, by rw [Hcs.out], ME.out⟩, RE.out, GE.out⟩
end Go.Proofs.Ytopmamgdfngdoaa
/- deliver: note of gaps (began as a print of gennte.py). -/
namespace Go.Proofs.Ytopmamgdfngdoaa
set_option linter.unusedVariables false
open Go.RowKit

set_option maxRecDepth 1000000 in
theorem fr70 (y : Nat → Value) : fr 70 y = #[y 0, y 1, y 2, y 3, y 4, y 5, y 6, y 7, y 8, y 9, y 10, y 11, y 12, y 13, y 14, y 15, y 16, y 17, y 18, y 19, y 20, y 21, y 22, y 23, y 24, y 25, y 26, y 27, y 28, y 29, y 30, y 31, y 32, y 33, y 34, y 35, y 36, y 37, y 38, y 39, y 40, y 41, y 42, y 43, y 44, y 45, y 46, y 47, y 48, y 49, y 50, y 51, y 52, y 53, y 54, y 55, y 56, y 57, y 58, y 59, y 60, y 61, y 62, y 63, y 64, y 65, y 66, y 67, y 68, y 69] := rfl
def gcl (ga : Option Addr) (k gc : Nat) : Array Value := #[.int .i64 4, .int .i64 7, .string { data := #[] }, .int .i64 0, .int .i64 0, .int .i64 0, .slice none 0 0, .slice ga k gc, .int .i64 0, .int .i64 0]
structure NgI (w W : World) (P N k : Nat) (l : List Sp) (ga : Option Addr) (gc : Nat) : Prop where
  rb : RB W P ((l.drop k).flatMap sby)
  bx : W.heap[N]? = some (.cells (gcl ga k gc) 60)
  own : W.ownsRow w.heap.size 84 2 (.slice ga k gc) k (spv (l.take k))
  g : w.grownBy W (some P)
def ngM (N n : Nat) (W : World) : Nat := match W.cell? ⟨N, 7, none⟩ with | some (.slice _ k _) => n - k | _ => 0
def nteI (w : World) (P N n : Nat) (l : List Sp) (y : Nat → Value) (W : World) : Prop :=
  ∃ k ga gc, k ≤ n ∧ y 0 = .pointer (some ⟨P, 0, none⟩) ∧ y 2 = .pointer (some ⟨N, 0, none⟩) ∧ y 10 = .int .i64 4 ∧ y 3 = y 3 ∧ NgI w W P N k l ga gc
set_option maxRecDepth 1000000 in
set_option maxHeartbeats 8000000 in
theorem note_ng (D : DP) (hD : DOk D) (l : List Sp) (P : Nat) (w : World) (hn1 : 1 ≤ l.length ∧ l.length ≤ 20) (hl : ∀ s ∈ l, s.1 ≤ 120 ∧ s.2 ≤ 120) (h : RB w P (nby D (.ng l))) :
    Calls Try.prog 49 #[.pointer (some ⟨P, 0, none⟩)] w fun e w' => NoteR D w w' P (.ng l) e := by
  have hF := hD.P.F
  have hfl := hD.len
  have hds := hD.s
  have hP := h.lt
  have hab := nby_all D hD (.ng l) trivial
  have hlen : (nby D (.ng l)).length ≤ 100000 := (by show ([4, 0, 7] ++ l.flatMap sby).length ≤ _; rw [List.length_append, sby_len]; show 3 + _ ≤ _; omega)
  have bN := below_alloc w (.cells #[.int .i64 0, .int .i64 0, .string { data := #[] }, .int .i64 0, .int .i64 0, .int .i64 0, .slice none 0 0, .slice none 0 0, .int .i64 0, .int .i64 0] 60)
  have AN := hid (heap_alloc_new w (.cells #[.int .i64 0, .int .i64 0, .string { data := #[] }, .int .i64 0, .int .i64 0, .int .i64 0, .slice none 0 0, .slice none 0 0, .int .i64 0, .int .i64 0] 60))
  have R0 := hid (show RB _ P ([4] ++ ([0, 7] ++ (l.flatMap sby))) from h.below bN)
  have hg0 := grownBy_of_below bN (some P)
  have G0 := hid hg0
  have HAB := hid (show AllB ([4] ++ ([0, 7] ++ (l.flatMap sby))) from hab)
  have HL := hid (show ([4] ++ ([0, 7] ++ (l.flatMap sby))).length ≤ 100000 from hlen)
  clear h bN hg0 hab hlen
  go_enter Try.func49, Try.ntmps49
  refine wp_seq_k (fun K0 hK0 => ?_)
  go_wp2_with fail
  refine hK0.out _ _ ?_
  obtain ⟨N, hN⟩ : ∃ N, N = w.heap.size := ⟨_, rfl⟩
  have hNP : N ≠ P := by omega
  have hNw : w.heap.size ≤ N := by omega
  rw [← hN] at AN ⊢
  clear hN
  generalize w.alloc (.cells #[.int .i64 0, .int .i64 0, .string { data := #[] }, .int .i64 0, .int .i64 0, .int .i64 0, .slice none 0 0, .slice none 0 0, .int .i64 0, .int .i64 0] 60) = V at *
  have hn1 := hid (number_at P 1 [4] ([0, 7] ++ (l.flatMap sby)) 4 V R0.out rfl rfl (by decide) (by decide) HL.out HAB.out)
  try rw [show ((1 : Nat) : Int) = 1 from rfl] at hn1
  refine wp_seq_k (fun K1 hK1 => ?_)
  go_wp2_with fail
  refine hn1.out.mono ?_
  rintro e V1 ⟨rfl, hrb, hg⟩
  have R1 := hid hrb
  have A1 := hid (row_grown AN.out hg hNP)
  have G1 := hid (grownBy_trans G0.out hg)
  clear hrb hg hn1 AN R0 G0
  have hn2 := hid (number_at P 2 [0, 7] (l.flatMap sby) 7 V1 R1.out rfl rfl (by decide) (by decide) (by have := HL.out; rw [List.length_append] at this; exact Nat.le_trans (Nat.le_add_left _ _) this) HAB.out.right)
  try rw [show ((2 : Nat) : Int) = 2 from rfl] at hn2
  go_wp2_with fail
  refine hn2.out.mono ?_
  rintro e V2 ⟨rfl, hrb, hg⟩
  have R2 := hid hrb
  have A2 := hid (row_grown A1.out hg hNP)
  have G2 := hid (grownBy_trans G1.out hg)
  clear hrb hg hn2 A1 R1 G1
  have c0 : V2.cell? ⟨N, 0, none⟩ = some (.int .i64 0) := by rw [cell_of_row _ _ _ _ _ _ A2.out]; rfl
  have fz0 := frozen_row A2.out 0
  obtain ⟨m1, m2⟩ := set_row (cs' := #[.int .i64 4, .int .i64 0, .string { data := #[] }, .int .i64 0, .int .i64 0, .int .i64 0, .slice none 0 0, .slice none 0 0, .int .i64 0, .int .i64 0]) A2.out 0 (.int .i64 4) rfl
  have c1 : (V2.setCell ⟨N, 0, none⟩ (.int .i64 4)).cell? ⟨N, 1, none⟩ = some (.int .i64 0) := by rw [cell_of_row _ _ _ _ _ _ m1]; rfl
  have fz1 := frozen_row m1 1
  obtain ⟨l1, l2⟩ := set_row (cs' := #[.int .i64 4, .int .i64 7, .string { data := #[] }, .int .i64 0, .int .i64 0, .int .i64 0, .slice none 0 0, .slice none 0 0, .int .i64 0, .int .i64 0]) m1 1 (.int .i64 7) rfl
  have A3 := hid l1
  have R3 := hid ((R2.out.other m2 A2.out (by decide) (by decide)).other l2 m1 (by decide) (by decide))
  have G3 := hid (grownBy_new G2.out (grownBy_trans m2 l2) hNw)
  clear m1 m2 l1 l2 A2 R2 G2
  go_wp2_with fail
  refine hK1.out _ _ ?_
  clear c0 c1 fz0 fz1
  generalize (V2.setCell ⟨N, 0, none⟩ (.int .i64 4)).setCell ⟨N, 1, none⟩ (.int .i64 7) = V3 at *
  have hN3 := row_lt A3.out
  refine wp_seq_k (fun K2 hK2 => ?_)
  have n0 : V3.cell? ⟨N, 0, none⟩ = some (.int .i64 4) := by rw [cell_of_row _ _ _ _ _ _ A3.out]; rfl
  refine wp_seq_k (fun K3 hK3 => ?_)
  go_wp2_with fail
  refine hK3.out _ _ ?_
  clear n0
  refine wp_block ?_
  refine wp_seq_k (fun T1 hT1 => ?_)
  go_wp2_with fail
  refine hT1.out _ _ ?_
  refine wp_cond_false rfl ?_
  refine wp_seq_k (fun T2 hT2 => ?_)
  go_wp2_with fail
  refine hT2.out _ _ ?_
  refine wp_cond_false rfl ?_
  refine wp_seq_k (fun T3 hT3 => ?_)
  go_wp2_with fail
  refine hT3.out _ _ ?_
  refine wp_cond_false rfl ?_
  refine wp_seq_k (fun T4 hT4 => ?_)
  go_wp2_with fail
  refine hT4.out _ _ ?_
  refine wp_cond_true rfl ?_
  obtain ⟨i0, hi, hz0, hz1, hz2⟩ := info_parts Try.info84
  obtain ⟨n, hn⟩ : ∃ n, n = l.length := ⟨_, rfl⟩
  have hnn : 1 ≤ n ∧ n ≤ 20 := by omega
  have Hn := hid hn
  have HLs := hid hl
  clear hn hl
  refine wp_block ?_
  refine wp_loop_fr 70 (nteI w P N n l) (fun _ W' => ngM N n W') ⟨rfl, rfl, 0, none, 0, Nat.zero_le _, rfl, rfl, rfl, rfl, ⟨R3.out, A3.out, World.ownsRow_nil _ _ _ _, G3.out⟩⟩ ?_
  clear R3 A3 G3 HAB HL hN3
  rintro z W ⟨k, ga, gc, hk, s0, s2, s10, _, hI⟩
  have HI := hid hI
  have HP := hid hI.rb
  obtain ⟨ra, rc, hP0, hrd⟩ := hI.rb.ex
  have HP0 := hid hP0
  have hme : Hid (ngM N n W = n - k) := hid (by unfold ngM; rw [cell_of_row _ _ _ _ _ _ hI.bx]; rfl)
  have hlen : ((l.drop k).flatMap sby).length = (n - k) * 8 := by rw [sby_len, List.length_drop, Hn.out]
  obtain ⟨rl, hrl⟩ : ∃ rl, rl = ((l.drop k).flatMap sby).length := ⟨_, rfl⟩
  rw [← hrl] at hP0 hlen
  have p0 : W.cell? ⟨P, 0, none⟩ = some (.slice ra rl rc) := by rw [cell_of_row _ _ _ _ _ _ hP0]; rfl
  have n7 : W.cell? ⟨N, 7, none⟩ = some (.slice ga k gc) := by rw [cell_of_row _ _ _ _ _ _ hI.bx]; rfl
  clear hI hP0 hrd hrl
  rw [fr70]
  simp only [s0, s2, s10]
  clear s0 s2 s10
  refine wp_seq_k (fun L0 hL0 => ?_)
  refine wp_seq_k (fun L1 hL1 => ?_)
  by_cases hlt : k < n
  · have hr0 : (0 : Int) < (rl : Int) := by omega
    have hr1 : 0 < rl := by omega
    have hk20 : (k : Int) ≤ 20 := by omega
    have hk21 : k ≤ 20 := by omega
    have d1 : decide ((0 : Int) < (rl : Int)) = true := decide_eq_true hr0
    go_wp2_with fail
    refine hL1.out _ _ ?_
    refine wp_cond_true rfl ?_
    go_wp2_with fail
    refine hL0.out _ _ ?_
    clear p0 n7 hr0 hr1 hk20 d1
    refine wp_block ?_
    have hdr := (Below.refl W.heap.size W).drew
    have A4 := hid (row_below HI.out.bx hdr)
    have R4 := hid (HI.out.rb.below hdr)
    have O4 := hid (ownsRow_below HI.out.own hdr)
    have G4 := hid (grownBy_trans HI.out.g (grownBy_of_below hdr (some P)))
    clear hdr HI HP HP0
    have hkl : k < l.length := by rw [← Hn.out]; exact hlt
    have hds : (l.drop k).flatMap sby = be4 l[k].1 ++ (be4 l[k].2 ++ (l.drop (k + 1)).flatMap sby) := by
      rw [List.drop_eq_getElem_cons hkl, List.flatMap_cons]
      unfold sby
      rw [List.append_assoc]
    have hsp := HLs.out l[k] (List.getElem_mem hkl)
    have hT : Hid (spv (l.take (k + 1)) = spv (l.take k) ++ [.int .i64 (l[k].1 : Int), .int .i64 (l[k].2 : Int)]) := by
      unfold Hid
      rw [List.take_add_one, List.getElem?_eq_getElem hkl, Option.toList_some]
      exact spv_snoc _ _ _
    have hab : AllB ((l.drop k).flatMap sby) := fun x hx => by
      obtain ⟨s, _, hs⟩ := List.mem_flatMap.1 hx
      rcases List.mem_append.1 hs with h | h
      · exact be4_all _ _ h
      · exact be4_all _ _ h
    rw [hds] at R4 hab
    have hl2 : (be4 l[k].1 ++ (be4 l[k].2 ++ (l.drop (k + 1)).flatMap sby)).length ≤ 100000 := by rw [← hds, sby_len, List.length_drop, ← Hn.out]; omega
    obtain ⟨sx, hsx⟩ : ∃ sx, sx = l[k].1 := ⟨_, rfl⟩
    obtain ⟨sy, hsy⟩ : ∃ sy, sy = l[k].2 := ⟨_, rfl⟩
    rw [← hsx, ← hsy] at R4 hab hl2 hsp hT
    have HAB := hid hab
    have HL := hid hl2
    clear hds hsx hsy hab hl2
    refine wp_region_can 10 [3, 5, 7, 8] [0, 1, 2, 4, 3, 5, 6, 7, 8, 9] (fun u u' => u'.heap[N]? = u.heap[N]?) (fun _ => rfl) (fun _ _ _ h k => k.trans h) (by kernel_rfl) (by kernel_rfl) ?_
    simp only [List.map_cons, List.map_nil, List.contains_cons, List.contains_nil, List.getD_cons_zero, List.getD_cons_succ, Nat.reduceBEq, Bool.or_false, Bool.or_true]
    generalize W.drew = U at *
    have f7 : ∀ w' : World, w'.heap[N]? = U.heap[N]? → w'.cell? ⟨N, 7, none⟩ = some (.slice ga k gc) := fun w' h => by rw [cell_of_row _ _ _ _ _ _ (h.trans A4.out)]; rfl
    iterate 4 (refine wpL_do rfl (fun w' hw' => (by go_simp; rfl)) ?_; simp only [Act.put, List.setIfInBounds_toArray, List.set_cons_succ, List.set_cons_zero])
    clear f7
    have hn3 := hid (number_at P 4 (be4 sx) (be4 sy ++ (l.drop (k + 1)).flatMap sby) (sx : Int) U R4.out rfl (by rw [numB_be4 _ (by omega)]) (by decide) (by decide) HL.out HAB.out)
    try rw [show ((4 : Nat) : Int) = 4 from rfl] at hn3
    refine wpL_call rfl (fun K hK => ?_)
    go_wp2_with fail
    refine hn3.out.mono ?_
    rintro e U1 ⟨rfl, hrb, hg⟩
    have A5 := hid (row_grown A4.out hg hNP)
    refine hK _ _ (A5.out.trans A4.out.symm) ?_
    clear hK K
    try simp only [Act.put, List.setIfInBounds_toArray, List.set_cons_succ, List.set_cons_zero]
    have hbP : (Value.slice ga k gc).ownBlock = none ∨ (Value.slice ga k gc).ownBlock ≠ some P := by
      obtain ⟨a2, c2, h1, _⟩ := R4.out.ex
      exact own_ne O4.out h1 (by decide)
    have R5 := hid hrb
    have O5 := hid (O4.out.kept hg hbP)
    have G5 := hid (grownBy_trans G4.out hg)
    clear hrb hg hn3 A4 R4 O4 G4 hbP
    have hn4 := hid (number_at P 4 (be4 sy) ((l.drop (k + 1)).flatMap sby) (sy : Int) U1 R5.out rfl (by rw [numB_be4 _ (by omega)]) (by decide) (by decide) (by have := HL.out; rw [List.length_append] at this; exact Nat.le_trans (Nat.le_add_left _ _) this) HAB.out.right)
    try rw [show ((4 : Nat) : Int) = 4 from rfl] at hn4
    refine wpL_call rfl (fun K hK => ?_)
    go_wp2_with fail
    refine hn4.out.mono ?_
    rintro e U2 ⟨rfl, hrb, hg⟩
    have A6 := hid (row_grown A5.out hg hNP)
    refine hK _ _ (A6.out.trans A5.out.symm) ?_
    clear hK K
    try simp only [Act.put, List.setIfInBounds_toArray, List.set_cons_succ, List.set_cons_zero]
    have hbP : (Value.slice ga k gc).ownBlock = none ∨ (Value.slice ga k gc).ownBlock ≠ some P := by
      obtain ⟨a2, c2, h1, _⟩ := R5.out.ex
      exact own_ne O5.out h1 (by decide)
    have R6 := hid hrb
    have O6 := hid (O5.out.kept hg hbP)
    have G6 := hid (grownBy_trans G5.out hg)
    clear hrb hg hn4 A5 R5 O5 G5 hbP
    iterate 1 (refine wpL_do rfl (fun w' hw' => (by go_simp; rfl)) ?_; simp only [Act.put, List.setIfInBounds_toArray, List.set_cons_succ, List.set_cons_zero])
    have bA := below_alloc U2 (.cells #[.int .i64 (sx : Int), .int .i64 (sy : Int)] 84)
    have hnew : ∀ (j : Nat) (u : Value), ([.int .i64 (sx : Int), .int .i64 (sy : Int)] : List Value)[j]? = some u → (U2.alloc (.cells #[.int .i64 (sx : Int), .int .i64 (sy : Int)] 84)).cell? ((⟨U2.heap.size, 0, none⟩ : Addr).add j) = some u := new_cells U2 [.int .i64 (sx : Int), .int .i64 (sy : Int)] 84
    refine wpL_call rfl (fun K hK => ?_)
    go_wp2_with fail
    refine hK _ _ (bA.block N (row_lt A6.out)) ?_
    clear hK K
    try simp only [Act.put, List.setIfInBounds_toArray, List.set_cons_succ, List.set_cons_zero]
    have A7 := hid (row_below A6.out bA)
    have R7 := hid (R6.out.below bA)
    have O7 := hid (ownsRow_below O6.out bA)
    have G7 := hid (grownBy_trans G6.out (grownBy_of_below bA (some P)))
    clear bA A6 R6 O6 G6
    generalize U2.alloc (.cells #[.int .i64 (sx : Int), .int .i64 (sy : Int)] 84) = U3 at *
    generalize U2.heap.size = Q at *
    refine wpL_call rfl (fun K hK => ?_)
    refine wp_append_own _ (.tmp 50) (.tmp 56) 26 rfl w.heap.size 84 i0 _ 2 16 Try.underlying26 hi hz0 hz1 hz2 rfl (by decide) (.slice ga k gc) k (spv (l.take k)) rfl O7.out ⟨Q, 0, none⟩ 1 1 [.int .i64 (sx : Int), .int .i64 (sy : Int)] rfl rfl hnew (by simp [Value.oneCell']) (by unfold maxLen; omega) (by omega) G7.out.size ?_
    intro v' U4 own4 g4 _
    obtain ⟨va, vc, rfl, _, _⟩ := own_slice own4
    rw [← hT.out] at own4
    have hbN : (Value.slice ga k gc).ownBlock = none ∨ (Value.slice ga k gc).ownBlock ≠ some N := own_ne O7.out A7.out (by decide)
    have hN4 : U4.heap[N]? = U3.heap[N]? := g4.block N (row_lt A7.out) (fun e => by rcases hbN with h | h; (rw [h] at e; cases e); exact h e.symm)
    have hR8 : RB U4 P ((l.drop (k + 1)).flatMap sby) := by
      obtain ⟨a2, c2, h1, h2⟩ := R7.out.ex
      exact ⟨a2, c2, Stays.ofOwn g4 O7.out (by decide) _ _ h1, h2.stays (Stays.ofOwn g4 O7.out (by decide))⟩
    have hG8 : w.grownBy U4 (some P) := ⟨g4.1.trans G7.out.1, g4.2.trans G7.out.2, g4.3.trans G7.out.3, Nat.le_trans G7.out.size g4.size, fun i hi hne => (g4.block i (Nat.lt_of_lt_of_le hi G7.out.size) (fun e => by have := (O7.out.lt i e.symm).1; omega)).trans (G7.out.block i hi hne)⟩
    refine hK _ _ hN4 ?_
    clear hK K
    try simp only [Act.put, List.setIfInBounds_toArray, List.set_cons_succ, List.set_cons_zero]
    have A8 := hid (hN4.trans A7.out)
    have R8 := hid hR8
    have G8 := hid hG8
    have O8 := hid own4
    clear own4 g4 hbN hN4 hR8 hG8 A7 R7 O7 G7 hnew
    iterate 1 (refine wpL_do rfl (fun w' hw' => (by go_simp; rfl)) ?_; simp only [Act.put, List.setIfInBounds_toArray, List.set_cons_succ, List.set_cons_zero])
    refine wpL_nil ?_
    simp only [List.drop_succ_cons, List.drop_zero]
    have c7 : U4.cell? ⟨N, 7, none⟩ = some (.slice ga k gc) := by rw [cell_of_row _ _ _ _ _ _ A8.out]; rfl
    have fz := frozen_row A8.out 7
    obtain ⟨m1, m2⟩ := set_row (cs' := gcl va (k + 1) vc) A8.out 7 (.slice va (k + 1) vc) rfl
    have HI2 : Hid (NgI w (U4.setCell ⟨N, 7, none⟩ (.slice va (k + 1) vc)) P N (k + 1) l va vc) := hid ⟨R8.out.other m2 A8.out (by decide) (by decide), m1, O8.out.kept m2 (own_ne O8.out A8.out (by decide)), grownBy_new G8.out m2 hNw⟩
    have hme2 : Hid (ngM N n (U4.setCell ⟨N, 7, none⟩ (.slice va (k + 1) vc)) = n - (k + 1)) := hid (by unfold ngM; rw [cell_of_row _ _ _ _ _ _ m1]; rfl)
    clear m1 m2 A8 R8 G8 O8
    go_wp2_with fail
    unfold OnlyOn
    go_wp2_with fail
    clear c7 fz
    refine ⟨rfl, rfl, ⟨k + 1, va, vc, by omega, rfl, rfl, rfl, rfl, HI2.out⟩, ?_⟩
    show ngM N n (U4.setCell ⟨N, 7, none⟩ (.slice va (k + 1) vc)) < ngM N n W
    rw [hme2.out, hme.out]
    omega
  · obtain rfl : k = n := by omega
    have hr0 : rl = 0 := by omega
    subst hr0
    clear hlen
    go_wp2_with fail
    refine hL1.out _ _ ?_
    refine wp_cond_false rfl ?_
    go_wp2_with fail
    have hdn : l.drop k = [] := List.drop_eq_nil_of_le (by rw [← Hn.out]; exact Nat.le_refl _)
    have htn : l.take k = l := List.take_of_length_le (by rw [← Hn.out]; exact Nat.le_refl _)
    have hrb := HI.out.rb
    have how := HI.out.own
    have hbx := HI.out.bx
    rw [hdn] at hrb
    rw [htn, Hn.out] at how
    rw [Hn.out] at hbx
    have RX := hid (show RB W P [] from hrb)
    have OX := hid (RdS.ofOwn how)
    have AX := hid hbx
    have GX := hid HI.out.g
    clear hrb how hbx HI HP HP0 p0 n7 hdn htn hme
    refine hK2.out _ _ ?_
    have hsz : (ncl D ⟨.ng l, ga, gc⟩).toArray.size = 10 := rfl
    obtain ⟨cs, hcs⟩ : ∃ cs, cs = (ncl D ⟨.ng l, ga, gc⟩).toArray := ⟨_, rfl⟩
    have AE : Hid (W.heap[N]? = some (.cells cs 60)) := hid (by rw [hcs]; exact AX.out)
    rw [← hcs] at hsz
    have hone : cs.all (fun x => x.oneCell') = true := by rw [hcs]; unfold ncl ncI; simp [Value.oneCell', ndata, ngaps]
    have Hcs := hid hcs
    clear hcs
    have AE0 := AE.out
    refine wp_seq_k (fun K9 hK9 => ?_)
    obtain ⟨z1, z2⟩ := set_whole (cs' := cs) AE.out
    have RE := hid (RX.out.other z2 AE.out (by decide) (by decide))
    have GE := hid (grownBy_new GX.out z2 hNw)
    have ME := hid ((show NVM D W ⟨.ng l, ga, gc⟩ from OX.out).stays (Stays.ofSet z2 AE.out (by decide)) (Stays.ofSet z2 AE.out (by decide)))
    have ZE := hid z1
    go_wp2_with (first | with_reducible refine wpList_load_row (o := ⟨some 69, _, _, _, _, _⟩) rfl 60 _ rfl N rfl 60 _ _ _ AE0 Try.underlying60 rfl (by rw [hsz]; kernel_rfl) ?_ | with_reducible refine at_store 60 ?_)
    unfold Hid
    refine wpList_store_row rfl 60 _ _ rfl N cs rfl rfl 60 _ AE.out (by rw [hsz]; try rfl) (by rw [hsz]; try rfl) hone ?_
    clear z1 z2 AE AE0 hone
    generalize W.setRow N _ = VE at *
    go_wp2_with fail
    refine hK9.out _ _ ?_
    go_wp2_with fail
    refine bodyPost_ret (results_cell1 (fn := Try.f49) rfl _ VE N 60 _ _ rfl ZE.out (by kernel_rfl) (by rw [hsz]; kernel_rfl)) rfl ?_
    exact ⟨⟨ga, gc, by rw [Hcs.out], ME.out⟩, RE.out, GE.out⟩
end Go.Proofs.Ytopmamgdfngdoaa
/- deliver: Decode (walks 48, 28); notes of all kinds at once. -/
namespace Go.Proofs.Ytopmamgdfngdoaa
set_option linter.unusedVariables false
open Go.RowKit

/-- a note that may be -/
def vN (D : DP) : NT → Prop
  | .np x y => x < y ∧ y ≤ D.P.F
  | .ng l => (1 ≤ l.length ∧ l.length ≤ 20) ∧ ∀ s ∈ l, vSp D.P.F s
  | _ => True
theorem mayN (D : DP) (hD : DOk D) (k : NT) (a : Option Addr) (c : Nat) (w : World) (hk : vN D k) (hm : NVM D w ⟨k, a, c⟩) :
    Calls Try.prog 30 #[.agg (ncl D ⟨k, a, c⟩).toArray] w fun e w' => e = .returned (.bool true) ∧ Below w.heap.size w w' := by
  have hF := hD.P.F
  cases k with
  | nm => exact may_nm logS D.P.F w (by rw [log_len]; omega) (by omega)
  | np x y => exact may_np x a (y - x) c w (by have := hk.1; have := hk.2; omega) (by have := hk.1; have := hk.2; omega)
  | ne => exact may_ne D.P.F D.s w (by omega) hD.s
  | ng l => exact may_ng a l.length c l w hk.1 hm (fun s hs => vSp_mono (hk.2 s hs) (by omega))
  | nd => exact may_nd w
  | se => exact may_sp w
  | sd => exact may_sd w
theorem noteN (D : DP) (hD : DOk D) (k : NT) (P : Nat) (w : World) (hk : vN D k) (h : RB w P (nby D k)) :
    Calls Try.prog 49 #[.pointer (some ⟨P, 0, none⟩)] w fun e w' => NoteR D w w' P k e := by
  have hF := hD.P.F
  cases k with
  | nm => exact note_nm D hD P w h
  | np x y => exact note_np D hD x y P w hk.1 hk.2 h
  | ne => exact note_ne D hD P w h
  | ng l => exact note_ng D hD l P w hk.1 (fun s hs => by
      rcases hk.2 s hs with h | ⟨h1, h2⟩
      · rw [h]; exact ⟨by decide, by decide⟩
      · omega) h
  | nd => exact note_nd D hD P w h
  | se => exact note_se D hD P w h
  | sd => exact note_sd D hD P w h
theorem EncN (D : DP) (hD : DOk D) (k : NT) (a : Option Addr) (c : Nat) (w : World) (hk : vN D k) (hm : NVM D w ⟨k, a, c⟩) :
    Calls Try.prog 27 #[.agg (ncl D ⟨k, a, c⟩).toArray] w fun e w' => EncR w w' (nby D k) e := by
  cases k with
  | nm => exact Enc_nm D hD w
  | np x y => exact Enc_np D hD x y (y - x) c a w rfl hk.1 hk.2 hm
  | ne => exact Enc_ne D hD w
  | ng l => exact Enc_ng D hD a l.length c l w rfl hk.1 hm hk.2
  | nd => exact Enc_nd D hD w
  | se => exact Enc_se D hD w
  | sd => exact Enc_sd D hD w
theorem nby_len (D : DP) (hD : DOk D) (k : NT) (hk : vN D k) : 4 ≤ (nby D k).length ∧ (nby D k).length ≤ 1000 := by
  have hF := hD.P.F
  have hfl := hD.len
  cases k with
  | nm => exact ⟨by show 4 ≤ 3 + (4 + 3); omega, by show 3 + (4 + 3) ≤ _; omega⟩
  | np x y =>
    have h1 := hk.1
    have h2 := hk.2
    have : (nby D (.np x y)).length = 3 + (4 + (y - x)) := by
      show ([2, 0, 7] ++ (be4 x ++ sub D.fl x y)).length = _
      rw [List.length_append, List.length_append, be4_len, sub_len (by omega)]
      rfl
    omega
  | ne => exact ⟨by show 4 ≤ 3 + (4 + 4); omega, by show 3 + (4 + 4) ≤ _; omega⟩
  | ng l =>
    have h1 := hk.1
    have : (nby D (.ng l)).length = 3 + l.length * 8 := by
      show ([4, 0, 7] ++ l.flatMap sby).length = _
      rw [List.length_append, sby_len]
      rfl
    omega
  | nd => exact ⟨by show 4 ≤ 3 + 1; omega, by show 3 + 1 ≤ _; omega⟩
  | se => exact ⟨by show 4 ≤ 3 + 1; omega, by show 3 + 1 ≤ _; omega⟩
  | sd => exact ⟨by show 4 ≤ 3 + 1; omega, by show 3 + 1 ≤ _; omega⟩
set_option maxRecDepth 100000 in
theorem rec_idle (p q : Addr) (w : World) :
    CallsD Try.prog 48 #[.pointer (some p), .pointer (some q)] .returning w fun e u' w' => e = .returned (.tuple #[]) ∧ u' = .returning ∧ w' = w := by
  refine callsD_of_wpS Try.func48 rfl fun c₀ cs hu => ?_
  apply wpS_seq
  apply wpS_region
  simp [wpOpsS, go_sem, recoverD, hu, Try.ntmps48, Exit.thenS]
  refine wpS_of_wp ?_
  refine wp_block ?_
  refine wp_seq_k (fun K1 hK1 => ?_)
  go_wp2_with fail
  refine hK1.out _ _ ?_
  refine wp_cond_true rfl ?_
  go_wp2_with fail
  clear hK1 K1
  cases c₀
  simp_all [bodyPostS, results, Try.results48]
theorem wpList_load_rowW {P : Program} {ops : Array Oper} {rest : List Oper} {o : Oper} {a : Act} {w : World} {Q : Exit → Act → World → Prop} (hw : Region.wanted o (yielded ops a.tmps) = true) (ty : TypeId) (x : Operand) (ho : o.op = .load ty x)
    (g : Nat) (hx : a.eval x = .pointer (some ⟨g, 0, none⟩)) (t : TypeId) (cs : Array Value) (fr : Nat × Nat) (d : TypeDesc) (hg : w.heap[g]? = some (.cells cs t fr))
    (hu : P.underlying ty = some d) (hd : (match d with | .struct _ | .array _ _ => true | _ => false) = true) (hi : (P.info? ty).map (·.size) = some cs.size)
    (h : wpList P ops Q rest (a.put o.dst (.agg cs)) w) : wpList P ops Q (o :: rest) a w :=
  BigFrame.wpList_want hw fun _ hK => wp_load_row ty x ho g hx t cs fr d hg hu hd hi (hK _ _ h)
theorem results_cell2 {P : Program} {fn : Func} {p q : Tmp} {ty ty2 : TypeId} (h : fn.results = #[.cell p ty, .cell q ty2]) (tmps : Array Value) (w : World) (g g2 : Nat) (t : TypeId) (cs : Array Value) (v : Value) (fr : Nat × Nat)
    (hp : tmps.getD p undef = .pointer (some ⟨g, 0, none⟩)) (hg : w.heap[g]? = some (.cells cs t fr)) (hq : tmps.getD q undef = .pointer (some ⟨g2, 0, none⟩))
    (hud : (P.underlying ty).map (fun d => match d with | .struct _ | .array _ _ => true | _ => false) = some true) (hi : (P.info? ty).map (·.size) = some cs.size) (hv2 : (loadVar ty2 ⟨g2, 0, none⟩).run P w = .ok v w) :
    (results fn tmps).run P w = .ok (.tuple #[.agg cs, v]) w := by
  obtain ⟨d, hu, hd⟩ := Option.map_eq_some_iff.1 hud
  have hp' : tmps[p]?.getD undef = .pointer (some ⟨g, 0, none⟩) := by simpa using hp
  have hq' : tmps[q]?.getD undef = .pointer (some ⟨g2, 0, none⟩) := by simpa using hq
  simp [results, h, hp', hq', asAddr, run_loadVar_row w g t ty cs fr d hg hu (by cases d <;> first | rfl | cases hd) hi, hv2]
structure DecR (D : DP) (W0 W : World) (k : NT) (e : Ending) : Prop where
  ex : ∃ a c, e = .returned (.tuple #[.agg (ncl D ⟨k, a, c⟩).toArray, .int .i64 0]) ∧ NVM D W ⟨k, a, c⟩
  blw : Below W0.heap.size W0 W
theorem below_grownP {W0 W W' : World} {P : Nat} (h : Below W0.heap.size W0 W) (hg : W.grownBy W' (some P)) (hP : W0.heap.size ≤ P) : Below W0.heap.size W0 W' :=
  h.grown hg h.size (fun k e => by cases e; exact hP)
set_option maxRecDepth 1000000 in
set_option maxHeartbeats 8000000 in
theorem Dec_ok (D : DP) (hD : DOk D) (k : NT) (hk : vN D k) (a : Option Addr) (n c : Nat) (w : World) (hn : n = (nby D k).length) (hr : RdT 5 w a n c (vb (nby D k))) :
    Calls Try.prog 28 #[.slice a n c] w fun e w' => DecR D w w' k e := by
  have hmf : ∀ (fn : Fn) (first cap : Array Value) (w : World), (Instr.makeFunc fn first cap).run Try.prog w = .ok (.func fn first cap) w := fun _ _ _ _ => rfl
  have b1 := below_alloc w (.cells #[.int .i64 0, .int .i64 0, .string { data := #[] }, .int .i64 0, .int .i64 0, .int .i64 0, .slice none 0 0, .slice none 0 0, .int .i64 0, .int .i64 0] 60)
  have A1 := heap_alloc_new w (.cells #[.int .i64 0, .int .i64 0, .string { data := #[] }, .int .i64 0, .int .i64 0, .int .i64 0, .slice none 0 0, .slice none 0 0, .int .i64 0, .int .i64 0] 60)
  generalize hV1 : w.alloc (.cells #[.int .i64 0, .int .i64 0, .string { data := #[] }, .int .i64 0, .int .i64 0, .int .i64 0, .slice none 0 0, .slice none 0 0, .int .i64 0, .int .i64 0] 60) = V1 at *
  have b2 := below_alloc V1 (.cells #[.int .i64 0] 29)
  have A2 := heap_alloc_new V1 (.cells #[.int .i64 0] 29)
  generalize hV2 : V1.alloc (.cells #[.int .i64 0] 29) = V2 at *
  have b3 := below_alloc V2 (.cells #[.slice a n c] 95)
  have A3 := heap_alloc_new V2 (.cells #[.slice a n c] 95)
  have hs1 := b1.size
  have hs2 := b2.size
  have hM := row_lt A1
  have hQ := row_lt A2
  have A1' := row_below (row_below A1 b2) b3
  have A2' := row_below A2 b3
  have B3 := hid ((b1.trans (b2.mono hs1)).trans (b3.mono (Nat.le_trans hs1 hs2)))
  have HR := hid (((hr.below b1).below b2).below b3)
  have Hn := hid hn
  clear b1 b2 b3 hr hn A1 A2
  go_enter_defers Try.func28, Try.ntmps28
  refine wp_seq_k (fun K0 hK0 => ?_)
  go_wp2_with fail
  refine hK0.out _ _ ?_
  refine wp_seq_k (fun K1 hK1 => ?_)
  go_wp2_with fail
  refine hK1.out _ _ ?_
  refine wp_seq_k (fun K2 hK2 => ?_)
  go_wp2_with fail
  refine hK2.out _ _ ?_
  clear hV1 hV2 hmf
  obtain ⟨M, hMe⟩ : ∃ M, M = w.heap.size := ⟨_, rfl⟩
  obtain ⟨Q, hQe⟩ : ∃ Q, Q = V1.heap.size := ⟨_, rfl⟩
  obtain ⟨P, hPe⟩ : ∃ P, P = V2.heap.size := ⟨_, rfl⟩
  rw [← hPe] at A3 ⊢
  rw [← hQe] at A2' ⊢
  rw [← hMe] at A1' ⊢
  have hMP : M ≠ P := by omega
  have hQP : Q ≠ P := by omega
  have hQM : Q ≠ M := by omega
  have hM0 : w.heap.size ≤ M := by omega
  have hQ0 : w.heap.size ≤ Q := by omega
  have hP0 : w.heap.size ≤ P := by omega
  clear hMe hQe hPe hs1 hs2 hM hQ
  generalize V2.alloc (.cells #[.slice a n c] 95) = V3 at *
  have AM := hid A1'
  have AQ := hid A2'
  have hrb : RB V3 P (nby D k) := ⟨a, c, by rw [← Hn.out]; exact A3, by rw [← Hn.out]; exact HR.out⟩
  have hnt := hid (noteN D hD k P V3 hk hrb)
  clear A1' A2' A3 HR hrb
  refine wp_seq_k (fun K3 hK3 => ?_)
  go_wp2_with (first | with_reducible refine at_store 60 ?_ | fail)
  refine hnt.out.mono ?_
  rintro e V4 ⟨⟨a', c', he, hm⟩, hrb, hg⟩
  obtain ⟨cs, hcs⟩ : ∃ cs, cs = (ncl D ⟨k, a', c'⟩).toArray := ⟨_, rfl⟩
  rw [← hcs] at he
  subst he
  have hsz : cs.size = 10 := by rw [hcs]; rfl
  have hone : cs.all (fun x => x.oneCell') = true := by
    obtain ⟨da, dn, dc, hda⟩ := ndata_slice ⟨k, a', c'⟩
    obtain ⟨ga, gn, gc, hga⟩ := ngaps_slice ⟨k, a', c'⟩
    rw [hcs]
    unfold ncl ncI
    rw [hda, hga]
    simp [Value.oneCell']
  have Hcs := hid hcs
  have BM := hid (row_grown AM.out hg hMP)
  have BQ := hid (row_grown AQ.out hg hQP)
  have R4 := hid hrb
  have M4 := hid hm
  have B4 := hid (below_grownP B3.out hg hP0)
  clear hcs hrb hm hg hnt AM AQ B3
  obtain ⟨z1, z2⟩ := set_whole (cs' := cs) BM.out
  have CM := hid z1
  have CQ := hid (row_grown BQ.out z2 hQM)
  have R5 := hid (R4.out.other z2 BM.out (by decide) (by decide))
  have M5 := hid (M4.out.stays (Stays.ofSet z2 BM.out (by decide)) (Stays.ofSet z2 BM.out (by decide)))
  have B5 := hid (below_grownP B4.out z2 hM0)
  go_wp2_with (with_reducible refine at_store 60 ?_)
  unfold Hid
  refine wpList_store_row rfl 60 _ _ rfl M cs rfl rfl 60 _ BM.out (by rw [hsz]; try rfl) (by rw [hsz]; try rfl) hone ?_
  clear z1 z2 BM BQ R4 M4 B4
  generalize V4.setRow M _ = V5 at *
  go_wp2_with fail
  refine hK3.out _ _ ?_
  obtain ⟨ra, rc, hp, _⟩ := R5.out.ex
  have p0 : V5.cell? ⟨P, 0, none⟩ = some (.slice ra 0 rc) := by rw [cell_of_row _ _ _ _ _ _ hp]; rfl
  have hld := run_load_note CM.out hsz
  have hmy := mayN D hD k a' c' V5 hk M5.out
  rw [← Hcs.out] at hmy
  have Hmy := hid hmy
  clear hp hmy
  refine wp_seq_k (fun K4 hK4 => ?_)
  refine wp_seq_k (fun K5 hK5 => ?_)
  have CM0 := CM.out
  go_wp2_with (with_reducible refine wpList_load_rowW (o := ⟨some 12, _, _, _, _, _⟩) rfl 60 _ rfl M rfl 60 _ _ _ CM0 Try.underlying60 rfl (by rw [hsz]; try kernel_rfl) ?_)
  refine Hmy.out.mono ?_
  rintro e V6 ⟨rfl, hb⟩
  have DM := hid (row_below CM.out hb)
  have DQ := hid (row_below CQ.out hb)
  have M6 := hid (M5.out.below hb)
  have B6 := hid (B5.out.trans (hb.mono B5.out.size))
  clear hb Hmy hld p0 CM CM0 CQ M5 B5 R5
  go_wp2_with fail
  refine hK5.out _ _ ?_
  refine wp_cond_false rfl ?_
  go_wp2_with fail
  refine hK4.out _ _ ?_
  obtain ⟨z1, z2⟩ := set_whole (cs' := cs) DM.out
  have EM := hid z1
  have EQ := hid (row_grown DQ.out z2 hQM)
  have M7 := hid (M6.out.stays (Stays.ofSet z2 DM.out (by decide)) (Stays.ofSet z2 DM.out (by decide)))
  have B7 := hid (below_grownP B6.out z2 hM0)
  have DM0 := DM.out
  refine wp_seq_k (fun K6 hK6 => ?_)
  go_wp2_with (first | with_reducible refine wpList_load_row (o := ⟨some 17, _, _, _, _, _⟩) rfl 60 _ rfl M rfl 60 _ _ _ DM0 Try.underlying60 rfl (by rw [hsz]; try kernel_rfl) ?_ | with_reducible refine at_store 60 ?_)
  unfold Hid
  refine wpList_store_row rfl 60 _ _ rfl M cs rfl rfl 60 _ DM.out (by rw [hsz]; try rfl) (by rw [hsz]; try rfl) hone ?_
  clear z1 z2 DM DM0 DQ M6 B6
  generalize V6.setRow M _ = V7 at *
  have q0 : V7.cell? ⟨Q, 0, none⟩ = some (.int .i64 0) := by rw [cell_of_row _ _ _ _ _ _ EQ.out]; rfl
  have fz := frozen_row EQ.out 0
  obtain ⟨z1, z2⟩ := set_row (cs' := #[.int .i64 0]) EQ.out 0 (.int .i64 0) rfl
  have FM := hid (row_grown EM.out z2 (fun e => hQM e.symm))
  have FQ := hid z1
  have M8 := hid (M7.out.stays (Stays.ofSet z2 EQ.out (by decide)) (Stays.ofSet z2 EQ.out (by decide)))
  have B8 := hid (below_grownP B7.out z2 hQ0)
  clear z1 z2 EM EQ M7 B7
  go_wp2_with fail
  refine hK6.out _ _ ?_
  clear q0 fz
  generalize V7.setCell ⟨Q, 0, none⟩ (.int .i64 0) = V8 at *
  go_wp2_with fail
  refine leaves_cons (f := 48) (args := #[.pointer (some ⟨M, 0, none⟩), .pointer (some ⟨Q, 0, none⟩)]) (by simp) (by simp [go_sem]) ?_
  refine (rec_idle ⟨M, 0, none⟩ ⟨Q, 0, none⟩ V8).mono ?_
  rintro e u' w'' ⟨rfl, rfl, rfl⟩
  have q1 : w''.cell? ⟨Q, 0, none⟩ = some (.int .i64 0) := by rw [cell_of_row _ _ _ _ _ _ FQ.out]; rfl
  refine ⟨_, results_cell2 (fn := Try.f28) rfl _ w'' M Q 60 cs (.int .i64 0) _ rfl FM.out rfl (by kernel_rfl) (by rw [hsz]; try kernel_rfl) (by simp [go_sem, q1]), ?_⟩
  exact ⟨⟨a', c', by rw [Hcs.out], M8.out⟩, B8.out⟩
end Go.Proofs.Ytopmamgdfngdoaa
/- deliver: notes on their way, as bytes; sends (walk 13). -/
namespace Go.Proofs.Ytopmamgdfngdoaa
set_option linter.unusedVariables false
open Go.RowKit

theorem Try.info22 : (Try.prog.info? 22).map (fun i => (i.zero, i.size, i.bytes)) = some (some (.slice none 0 0), 1, 24) := by kernel_rfl
/-- a note's bytes, and where they lie -/
structure BV where
  k : NT
  a : Option Addr
  c : Nat
def bvv (D : DP) (b : BV) : Value := .slice b.a (nby D b.k).length b.c
def BVM (D : DP) (W : World) (b : BV) : Prop := RdT 5 W b.a (nby D b.k).length b.c (vb (nby D b.k))
structure Way (D : DP) (W : World) (B : Nat) (wa : Option Addr) (wc : Nat) (bs : List BV) : Prop where
  own : W.ownsRow B 22 1 (.slice wa bs.length wc) bs.length (bs.map (bvv D))
  rd : ∀ b ∈ bs, BVM D W b
  vd : ∀ b ∈ bs, vN D b.k
theorem Way.below {D : DP} {W W' : World} {B : Nat} {wa : Option Addr} {wc : Nat} {bs : List BV} (h : Way D W B wa wc bs) (hb : Below W.heap.size W W') : Way D W' B wa wc bs := ⟨ownsRow_below h.own hb, fun b hm => RdT.below (h.rd b hm) hb, h.vd⟩
theorem Way.other {D : DP} {W W' : World} {B : Nat} {wa : Option Addr} {wc : Nat} {bs : List BV} {row : Option Nat} (h : Way D W B wa wc bs) (hg : W.grownBy W' row) (hne : (Value.slice wa bs.length wc).ownBlock = none ∨ (Value.slice wa bs.length wc).ownBlock ≠ row) (h5 : Stays 5 W W') : Way D W' B wa wc bs := ⟨h.own.kept hg hne, fun b hm => RdT.stays (h.rd b hm) h5, h.vd⟩
/-- which block of its own a value lies in -/
abbrev obk (wa : Option Addr) (n c : Nat) : Option Nat := (Value.slice wa n c).ownBlock
structure SendS (D : DP) (w W : World) (B : Nat) (ob : Option Nat) (bs0 : List BV) (wa : Option Addr) (wc : Nat) (bs : List BV) (ks : List NT) : Prop where
  wy : Way D W B wa wc bs
  ke : bs.map (·.k) = bs0.map (·.k) ++ ks
  oe : obk wa bs.length wc = ob ∨ ∀ g, obk wa bs.length wc = some g → w.heap.size ≤ g
  g : w.grownBy W ob
structure SendR (D : DP) (w W : World) (B : Nat) (ob : Option Nat) (bs0 : List BV) (ks : List NT) (e : Ending) : Prop where
  ex : ∃ wa wc bs, e = .returned (.tuple #[.slice wa (bs : List BV).length wc, .bool true]) ∧ SendS D w W B ob bs0 wa wc bs ks
set_option maxRecDepth 1000000 in
theorem fr30 (y : Nat → Value) : fr 30 y = #[y 0, y 1, y 2, y 3, y 4, y 5, y 6, y 7, y 8, y 9, y 10, y 11, y 12, y 13, y 14, y 15, y 16, y 17, y 18, y 19, y 20, y 21, y 22, y 23, y 24, y 25, y 26, y 27, y 28, y 29] := rfl
def sendI (D : DP) (w : World) (B B2 : Nat) (ob : Option Nat) (bs0 : List BV) (oa : Option Addr) (oc : Nat) (vs : List NV) (y : Nat → Value) (W : World) : Prop :=
  ∃ k wa wc bs, k ≤ vs.length ∧ y 0 = .slice wa (bs : List BV).length wc ∧ y 1 = .slice oa vs.length oc ∧ y 6 = .int .i64 (k : Int) ∧ SendS D w W B ob bs0 wa wc bs ((vs.take k).map (·.k)) ∧ NRow D W B2 oa oc vs
set_option maxRecDepth 1000000 in
set_option maxHeartbeats 8000000 in
theorem sends_ok (D : DP) (hD : DOk D) (B B2 : Nat) (wa : Option Addr) (wc : Nat) (bs0 : List BV) (oa : Option Addr) (oc : Nat) (vs : List NV) (w : World) (h : Way D w B wa wc bs0) (hB : B ≤ w.heap.size) (hN : NRow D w B2 oa oc vs) (hv : ∀ v ∈ vs, vN D v.k) (hl : bs0.length + vs.length ≤ 100000) :
    Calls Try.prog 13 #[.slice wa bs0.length wc, .slice oa vs.length oc] w fun e w' => SendR D w w' B (obk wa bs0.length wc) bs0 (vs.map (·.k)) e := by
  obtain ⟨i0, hi, hz0, hz1, hz2⟩ := info_parts Try.info22
  have H0 := hid (show SendS D w w B (obk wa bs0.length wc) bs0 wa wc bs0 [] from ⟨h, by rw [List.append_nil], .inl rfl, World.grownBy.refl _ _⟩)
  have HN := hid hN
  have HV := hid hv
  obtain ⟨ob, hob⟩ : ∃ ob, ob = obk wa bs0.length wc := ⟨_, rfl⟩
  rw [← hob] at H0 ⊢
  clear h hN hv hob
  go_enter Try.func13, Try.ntmps13
  refine wp_seq_k (fun K0 hK0 => ?_)
  go_wp2_with fail
  refine hK0.out _ _ ?_
  refine wp_seq_k (fun K1 hK1 => ?_)
  refine wp_seq_k (fun K2 hK2 => ?_)
  go_wp2_with fail
  refine hK2.out _ _ ?_
  refine wp_block ?_
  refine wp_loop_fr 30 (sendI D w B B2 ob bs0 oa oc vs) (fun y' _ => vs.length - (intOf (y' 6)).toNat) ⟨rfl, rfl, 0, wa, wc, bs0, Nat.zero_le _, rfl, rfl, rfl, H0.out, HN.out⟩ ?_
  clear H0 HN
  rintro z W ⟨k, wa, wc, bs, hk, s0, s1, s6, hS, hN⟩
  have HS := hid hS
  have HN := hid hN
  have hbl : bs.length = bs0.length + k := by
    have := congrArg List.length hS.ke
    rw [List.length_map, List.length_append, List.length_map, List.length_map, List.length_take] at this
    omega
  have hBW : B ≤ W.heap.size := Nat.le_trans hB hS.g.size
  clear hS hN
  obtain ⟨n, hn⟩ : ∃ n, n = vs.length := ⟨_, rfl⟩
  obtain ⟨bn, hbn⟩ : ∃ bn, bn = bs.length := ⟨_, rfl⟩
  rw [← hn] at hk hl s1
  rw [← hbn] at s0
  have Hn := hid hn
  have Hbn := hid hbn
  have hbn2 : bn ≤ 100000 := by omega
  rw [fr30]
  simp only [s0, s1, s6]
  rw [← hn]
  clear s0 s1 s6 hn hbn hbl
  by_cases hlt : k < n
  · have d1 : decide ((k : Int) < (n : Int)) = true := decide_eq_true (by omega)
    have hkI : (k : Int) < (n : Int) := by omega
    have hk0' : (0 : Int) ≤ (k : Int) := by omega
    have hkt : ((k : Nat) : Int).toNat = k := rfl
    have hkl : k < vs.length := by rw [← Hn.out]; exact hlt
    obtain ⟨g, hg⟩ : ∃ g, oa = some ⟨g, 0, none⟩ := by
      rcases HN.out.ow.2 with ⟨_, h0⟩ | ⟨g, cap, cur, hv, _⟩
      · omega
      · injection hv with hv
        exact ⟨g, hv⟩
    subst hg
    obtain ⟨v, hve⟩ : ∃ v, v = vs[k] := ⟨_, rfl⟩
    have hvm : v ∈ vs := by rw [hve]; exact List.getElem_mem hkl
    have hrg : W.rangeAt g (k * 10) (ncl D v) := fun j u hj => by
      have hj2 := (List.getElem?_eq_some_iff.1 hj).1
      rw [ncl_len] at hj2
      have hle : k * 10 + j < vs.length * 10 := by omega
      rw [HN.out.ow.cellAt (k * 10 + j) hle, flat_at (ncl D) 10 (ncl_len D) vs k hkl j hj2, ← hve]
      exact hj
    have hms := HN.out.ns v hvm
    have hvv := HV.out v hvm
    have hT : Hid ((vs.take (k + 1)).map (·.k) = (vs.take k).map (·.k) ++ [v.k]) := by
      unfold Hid
      rw [List.take_add_one, List.getElem?_eq_getElem hkl, Option.toList_some, List.map_append, ← hve]
      rfl
    obtain ⟨cs, hcs⟩ : ∃ cs, cs = ncl D v := ⟨_, rfl⟩
    rw [← hcs] at hrg
    have hcl : cs.length = 10 := by rw [hcs]; rfl
    have henc := EncN D hD v.k v.a v.c W hvv hms
    rw [show ncl D ⟨v.k, v.a, v.c⟩ = cs from hcs.symm] at henc
    have Henc := hid henc
    have HCs := hid hcs
    have Hms := hid hms
    have Hvv := hid hvv
    clear hve hvm hms hvv hcs henc
    refine wp_seq_k (fun L0 hL0 => ?_)
    refine wp_seq_k (fun L1 hL1 => ?_)
    go_wp2_with fail
    refine hL1.out _ _ ?_
    refine wp_cond_true rfl ?_
    go_wp2_with fail
    refine hL0.out _ _ ?_
    refine wp_seq_k (fun L2 hL2 => ?_)
    refine wp_block ?_
    refine wp_seq_k (fun L3 hL3 => ?_)
    go_wp2_with (with_reducible refine wpList_load_mid (op := ⟨some 19, _, _, _, _, _⟩) rfl 60 _ rfl g (k * 10) rfl cs _ hrg Try.underlying60 rfl (by rw [hcl]; kernel_rfl) ?_)
    refine Henc.out.mono ?_
    rintro e W1 ⟨⟨a', c', rfl, ho⟩, hb⟩
    have N1 := hid (HN.out.below hb)
    have W1y := hid (HS.out.wy.below hb)
    have G1 := hid (grownBy_trans HS.out.g (grownBy_of_below hb ob))
    have R1 := hid (show BVM D W1 ⟨v.k, a', c'⟩ from RdT.ofOwn ho)
    have hBW1 : B ≤ W1.heap.size := Nat.le_trans hBW hb.size
    have hKs := hid HS.out.ke
    have hOb := hid HS.out.oe
    have hWs := hid HS.out.g.size
    obtain ⟨ln, hln⟩ : ∃ ln, ln = (nby D v.k).length := ⟨_, rfl⟩
    rw [← hln]
    have Hln := hid hln
    have hW01 : W.heap.size ≤ W1.heap.size := hb.size
    clear hb ho Henc hrg HN HS hln Hms hcl
    go_wp2_with fail
    refine hL3.out _ _ ?_
    refine wp_seq_k (fun L4 hL4 => ?_)
    refine wp_seq_k (fun L5 hL5 => ?_)
    go_wp2_with fail
    refine hL5.out _ _ ?_
    refine wp_cond_false rfl ?_
    go_wp2_with fail
    refine hL4.out _ _ ?_
    have bA := below_alloc W1 (.cells #[.slice a' ln c'] 22)
    have hnew : Hid (∀ (j : Nat) (u : Value), ([.slice a' ln c'] : List Value)[j]? = some u → (W1.alloc (.cells #[.slice a' ln c'] 22)).cell? ((⟨W1.heap.size, 0, none⟩ : Addr).add j) = some u) := new_cells W1 [.slice a' ln c'] 22
    have W2 := hid (W1y.out.below bA)
    have N2 := hid (N1.out.below bA)
    have G2 := hid (grownBy_trans G1.out (grownBy_of_below bA ob))
    have R2 := hid (RdT.below R1.out bA)
    have hBW2 : B ≤ (W1.alloc (.cells #[.slice a' ln c'] 22)).heap.size := Nat.le_trans hBW1 bA.size
    have hW12 : W1.heap.size ≤ (W1.alloc (.cells #[.slice a' ln c'] 22)).heap.size := bA.size
    clear bA W1y N1 G1 R1
    have how := W2.out.own
    rw [← Hbn.out] at how
    have HOW := hid how
    obtain ⟨xs, hxs⟩ : ∃ xs, xs = bs.map (bvv D) := ⟨_, rfl⟩
    rw [← hxs] at HOW
    have Hxs := hid hxs
    clear how hxs
    go_wp2_with (at_builtin; refine wpList_append_own_at _ rfl _ _ 37 rfl B 22 i0 _ 1 24 Try.underlying37 hi hz0 hz1 hz2 rfl (by decide) (.slice wa bn wc) bn xs rfl HOW.out ⟨W1.heap.size, 0, none⟩ 1 1 [.slice a' ln c'] rfl rfl hnew.out (by simp [Value.oneCell']) (by unfold maxLen; omega) (by omega) hBW2 ?_)
    intro v' W3 own4 g4 hnl hat
    obtain ⟨va, vc, rfl, _, _⟩ := own_slice own4
    have s5 : Stays 5 _ W3 := Stays.ofOwn g4 HOW.out (by decide)
    have s60 : Stays 60 _ W3 := Stays.ofOwn g4 HOW.out (by decide)
    have s84 : Stays 84 _ W3 := Stays.ofOwn g4 HOW.out (by decide)
    have hlen3 : (bs ++ [(⟨v.k, a', c'⟩ : BV)]).length = bn + 1 := by rw [List.length_append, ← Hbn.out]; rfl
    have hwy : Way D W3 B va vc (bs ++ [⟨v.k, a', c'⟩]) := by
      refine ⟨?_, fun b hb => ?_, fun b hb => ?_⟩
      · rw [hlen3, List.map_append, ← Hxs.out]
        show W3.ownsRow B 22 1 _ _ (xs ++ [.slice a' (nby D v.k).length c'])
        rw [← Hln.out]
        exact own4
      · rcases List.mem_append.1 hb with h | h
        · exact RdT.stays (W2.out.rd b h) s5
        · rw [List.mem_singleton] at h
          subst h
          exact RdT.stays R2.out s5
      · rcases List.mem_append.1 hb with h | h
        · exact W2.out.vd b h
        · rw [List.mem_singleton] at h
          subst h
          exact Hvv.out
    have hN3 : NRow D W3 B2 (some ⟨g, 0, none⟩) oc vs := ⟨own_stays N2.out.ow s60, fun u hu => (N2.out.ns u hu).stays s5 s84⟩
    have hob3 : obk va (bn + 1) vc = ob ∨ ∀ q, obk va (bn + 1) vc = some q → w.heap.size ≤ q := by
      rcases hat with e | e
      · rcases hOb.out with e2 | h2
        · left; exact e.trans (by rw [← e2, ← Hbn.out])
        · right; exact fun q hq => h2 q (by rw [← Hbn.out]; exact e.symm.trans hq)
      · right
        intro q hq
        have e3 := e.symm.trans hq
        injection e3 with e3
        have := hWs.out
        omega
    have hg3 : w.grownBy W3 ob := by
      refine ⟨g4.1.trans G2.out.1, g4.2.trans G2.out.2, g4.3.trans G2.out.3, Nat.le_trans G2.out.size g4.size, fun i hi hne => ?_⟩
      refine (g4.block i (Nat.lt_of_lt_of_le hi G2.out.size) (fun e => ?_)).trans (G2.out.block i hi hne)
      rw [Hbn.out] at e
      rcases hOb.out with e2 | h2
      · exact hne (e.trans e2)
      · have := h2 i e.symm
        omega
    have hS3 : SendS D w W3 B ob bs0 va vc (bs ++ [⟨v.k, a', c'⟩]) ((vs.take (k + 1)).map (·.k)) := ⟨hwy, by rw [List.map_append, hKs.out, hT.out, List.append_assoc]; rfl, by rw [hlen3]; exact hob3, hg3⟩
    have HS3 := hid hS3
    have HN3 := hid hN3
    have HL3 := hid hlen3
    clear own4 g4 hnl hat s5 s60 s84 hlen3 hwy hN3 hob3 hg3 hS3 W2 N2 G2 R2 HOW hnew
    go_wp2_with fail
    refine hL2.out _ _ ?_
    go_wp2_with fail
    refine ⟨rfl, rfl, ⟨k + 1, va, vc, bs ++ [⟨v.k, a', c'⟩], by omega, by rw [HL3.out]; rfl, by rw [← Hn.out]; rfl, ?_, HS3.out, HN3.out⟩, ?_⟩
    · show Value.int .i64 _ = Value.int .i64 _
      go_num
    · show _ - (intOf (Value.int .i64 _)).toNat < _
      simp [intOf]
      omega
  · obtain rfl : k = n := by omega
    have d1 : decide ((k : Int) < (k : Int)) = false := decide_eq_false (by omega)
    refine wp_seq_k (fun L0 hL0 => ?_)
    refine wp_seq_k (fun L1 hL1 => ?_)
    go_wp2_with fail
    refine hL1.out _ _ ?_
    refine wp_cond_false rfl ?_
    go_wp2_with fail
    refine hK1.out _ _ ?_
    go_wp2_with fail
    refine bodyPost_ret (results_tmp2 rfl _ _ _) rfl ?_
    have ht : vs.take k = vs := List.take_of_length_le (by rw [← Hn.out]; exact Nat.le_refl _)
    rw [ht] at HS
    exact ⟨wa, wc, bs, by rw [← Hbn.out]; rfl, HS.out⟩
end Go.Proofs.Ytopmamgdfngdoaa
