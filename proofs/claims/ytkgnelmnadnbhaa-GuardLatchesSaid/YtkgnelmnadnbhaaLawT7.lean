/- GuardLatches: what the law concludes in a tick, statement by statement (printed by gentail.py). -/
import Derived.Test.YtkgnelmnadnbhaaLawT6
namespace Go.Proofs.Ytkgnelmnadnbhaa
set_option linter.unusedVariables false
open Go.RowKit

def whyM (most cnt : Nat) (why : Int) : Int := if why = -1 ∧ most ≤ cnt then -3 else why
def whyS (sil quiet : Nat) (why : Int) : Int := if why = -1 ∧ 0 < sil ∧ sil ≤ quiet then -2 else why

set_option maxRecDepth 1000000 in
set_option maxHeartbeats 1000000 in
theorem law_50 (C : Cx) (hC : C.Ok) (V N vb : Nat) (lv tv nv : Value) (quiet i : Nat) (why : Int) (wrong : Bool) (W0 : World) (cnt : Nat) (hc : cnt ≤ 3000) (hg : W0.heap[C.H]? = some (.cells #[.slice (some ⟨C.gb, 0, none⟩) C.n C.cap, .int .i64 (C.sil : Int), .int .i64 (C.most : Int), .int .i64 (C.win : Int), .string C.nam] 27)) :
    Tri Try.prog 332 (pieceOf Try.f3 [1, 1, 1, 1, 1, 1, 1, 1, 1, 1, 1, 0, 1, 0, 0, 1, 0, 0, 1, 1, 1, 1, 1, 1, 1, 1, 1, 1, 0]) (fun y w => SX C y V N vb lv tv nv quiet i C.n why wrong ∧ y 30 = .int .i64 (cnt : Int) ∧ w = W0)
      (fun _ _ y w => SX C y V N vb lv tv nv quiet i C.n (whyM C.most cnt why) wrong ∧ w = W0) := by
  rintro Q y w ⟨hS, h30, rfl⟩ hQ
  have HQ := hid hQ
  obtain ⟨⟨s4, s11, s13, s15, s16, s17, s18, s19⟩, s20, s22, s23, s25, s26, s27⟩ := hS
  clear hQ
  conv => arg 2; whnf
  rw [fr332]
  simp only [s4, s11, s13, s15, s16, s17, s18, s19, s20, s22, s23, s25, s26, s27, h30]
  clear s4 s11 s13 s15 s16 s17 s18 s19 s20 s22 s23 s25 s26 s27 h30
  have hm := hC.gg.m2
  have c0 : w.cell? ⟨C.H, 2, none⟩ = some (.int .i64 (C.most : Int)) := by rw [cell_of_row _ _ _ _ _ _ hg]; rfl
  clear hg
  have Hw : Hid (whyM C.most cnt why = if why = -1 ∧ C.most ≤ cnt then -3 else why) := rfl
  generalize whyM C.most cnt why = w1 at *
  by_cases h1 : why = -1
  · subst h1
    by_cases h2 : C.most ≤ cnt
    · have d1 : decide ((C.most : Int) ≤ (cnt : Int)) = true := decide_eq_true (by omega)
      have d2 : decide (C.most ≤ cnt) = true := decide_eq_true h2
      rw [if_pos ⟨rfl, h2⟩] at Hw
      clear h2
      go_wp2_with fail
      refine q_fr (N := 332) HQ.out rfl ⟨⟨⟨rfl, rfl, rfl, rfl, rfl, rfl, rfl, rfl⟩, rfl, rfl, rfl, ?_, rfl, rfl⟩, rfl⟩
      rw [Hw.out]; rfl
    · have d1 : decide ((C.most : Int) ≤ (cnt : Int)) = false := decide_eq_false (by omega)
      have d2 : decide (C.most ≤ cnt) = false := decide_eq_false h2
      rw [if_neg (fun h => h2 h.2)] at Hw
      clear h2
      go_wp2_with fail
      refine q_fr (N := 332) HQ.out rfl ⟨⟨⟨rfl, rfl, rfl, rfl, rfl, rfl, rfl, rfl⟩, rfl, rfl, rfl, ?_, rfl, rfl⟩, rfl⟩
      rw [Hw.out]; rfl
  · have d1 : (why == -1) = false := by rw [beq_eq_false_iff_ne]; exact h1
    rw [if_neg (fun h => h1 h.1)] at Hw
    clear h1
    go_wp2_with fail
    refine q_fr (N := 332) HQ.out rfl ⟨⟨⟨rfl, rfl, rfl, rfl, rfl, rfl, rfl, rfl⟩, rfl, rfl, rfl, ?_, rfl, rfl⟩, rfl⟩
    rw [Hw.out]; rfl

set_option maxRecDepth 1000000 in
set_option maxHeartbeats 1000000 in
theorem law_52 (C : Cx) (hC : C.Ok) (V N vb : Nat) (lv tv nv : Value) (quiet i : Nat) (why : Int) (wrong : Bool) (W0 : World) (hq : quiet ≤ 1000) (hg : W0.heap[C.H]? = some (.cells #[.slice (some ⟨C.gb, 0, none⟩) C.n C.cap, .int .i64 (C.sil : Int), .int .i64 (C.most : Int), .int .i64 (C.win : Int), .string C.nam] 27)) :
    Tri Try.prog 332 (pieceOf Try.f3 [1, 1, 1, 1, 1, 1, 1, 1, 1, 1, 1, 0, 1, 0, 0, 1, 0, 0, 1, 1, 1, 1, 1, 1, 1, 1, 1, 1, 1, 0]) (fun y w => SX C y V N vb lv tv nv quiet i C.n why wrong ∧ w = W0)
      (fun _ _ y w => SX C y V N vb lv tv nv quiet i C.n (whyS C.sil quiet why) wrong ∧ w = W0) := by
  rintro Q y w ⟨hS, rfl⟩ hQ
  have HQ := hid hQ
  obtain ⟨⟨s4, s11, s13, s15, s16, s17, s18, s19⟩, s20, s22, s23, s25, s26, s27⟩ := hS
  clear hQ
  conv => arg 2; whnf
  rw [fr332]
  simp only [s4, s11, s13, s15, s16, s17, s18, s19, s20, s22, s23, s25, s26, s27]
  clear s4 s11 s13 s15 s16 s17 s18 s19 s20 s22 s23 s25 s26 s27 
  have hm := hC.gg.s
  have c0 : w.cell? ⟨C.H, 1, none⟩ = some (.int .i64 (C.sil : Int)) := by rw [cell_of_row _ _ _ _ _ _ hg]; rfl
  clear hg
  have Hw : Hid (whyS C.sil quiet why = if why = -1 ∧ 0 < C.sil ∧ C.sil ≤ quiet then -2 else why) := rfl
  generalize whyS C.sil quiet why = w1 at *
  by_cases h1 : why = -1
  · subst h1
    by_cases h2 : 0 < C.sil
    · have e1 : decide ((0 : Int) < (C.sil : Int)) = true := decide_eq_true (by omega)
      have e2 : decide (0 < C.sil) = true := decide_eq_true h2
      by_cases h3 : C.sil ≤ quiet
      · have d1 : decide ((C.sil : Int) ≤ (quiet : Int)) = true := decide_eq_true (by omega)
        have d2 : decide (C.sil ≤ quiet) = true := decide_eq_true h3
        rw [if_pos ⟨rfl, h2, h3⟩] at Hw
        clear h2 h3
        go_wp2_with fail
        refine q_fr (N := 332) HQ.out rfl ⟨⟨⟨rfl, rfl, rfl, rfl, rfl, rfl, rfl, rfl⟩, rfl, rfl, rfl, ?_, rfl, rfl⟩, rfl⟩
        rw [Hw.out]; rfl
      · have d1 : decide ((C.sil : Int) ≤ (quiet : Int)) = false := decide_eq_false (by omega)
        have d2 : decide (C.sil ≤ quiet) = false := decide_eq_false h3
        rw [if_neg (fun h => h3 h.2.2)] at Hw
        clear h2 h3
        go_wp2_with fail
        refine q_fr (N := 332) HQ.out rfl ⟨⟨⟨rfl, rfl, rfl, rfl, rfl, rfl, rfl, rfl⟩, rfl, rfl, rfl, ?_, rfl, rfl⟩, rfl⟩
        rw [Hw.out]; rfl
    · have e1 : decide ((0 : Int) < (C.sil : Int)) = false := decide_eq_false (by omega)
      have e2 : decide (0 < C.sil) = false := decide_eq_false h2
      rw [if_neg (fun h => h2 h.2.1)] at Hw
      clear h2
      go_wp2_with fail
      refine q_fr (N := 332) HQ.out rfl ⟨⟨⟨rfl, rfl, rfl, rfl, rfl, rfl, rfl, rfl⟩, rfl, rfl, rfl, ?_, rfl, rfl⟩, rfl⟩
      rw [Hw.out]; rfl
  · have d1 : (why == -1) = false := by rw [beq_eq_false_iff_ne]; exact h1
    rw [if_neg (fun h => h1 h.1)] at Hw
    clear h1
    go_wp2_with fail
    refine q_fr (N := 332) HQ.out rfl ⟨⟨⟨rfl, rfl, rfl, rfl, rfl, rfl, rfl, rfl⟩, rfl, rfl, rfl, ?_, rfl, rfl⟩, rfl⟩
    rw [Hw.out]; rfl

set_option maxRecDepth 1000000 in
set_option maxHeartbeats 1000000 in
theorem law_54 (C : Cx) (hC : C.Ok) (V N vb : Nat) (lv tv nv : Value) (quiet i : Nat) (why : Int) (wrong : Bool) (W0 : World) (s : St) (v : Vs) (hv : W0.heap[V]? = some (.cells (vRow C.n s v) 33)) (hi : i < C.nL) (hb : Below C.w0.heap.size C.w0 W0) :
    Tri Try.prog 332 (pieceOf Try.f3 [1, 1, 1, 1, 1, 1, 1, 1, 1, 1, 1, 0, 1, 0, 0, 1, 0, 0, 1, 1, 1, 1, 1, 1, 1, 1, 1, 1, 1, 1, 0]) (fun y w => SX C y V N vb lv tv nv quiet i C.n why wrong ∧ w = W0)
      (fun _ _ y w => SX C y V N vb lv tv nv quiet i C.n why wrong ∧ y 32 = .bool (leavesL s.safe (C.lk i).leave (C.lk i).heard wrong) ∧ w = W0) := by
  rintro Q y w ⟨hS, rfl⟩ hQ
  have HQ := hid hQ
  have hl := hC.lk.below hb
  obtain ⟨lb, lo, hla, hlb, hlc⟩ := hl.mem (by omega)
  obtain ⟨_, c1, c2⟩ := hlc i hi
  have c0 : w.cell? ⟨V, 0, none⟩ = some (.bool s.safe) := by rw [cell_of_row _ _ _ _ _ _ hv]; rfl
  obtain ⟨⟨s4, s11, s13, s15, s16, s17, s18, s19⟩, s20, s22, s23, s25, s26, s27⟩ := hS
  rw [hla] at s4
  have Hla := hid hla
  have hiL : i < 300 := Nat.lt_of_lt_of_le hi hC.n300
  have Hle : Hid (leavesL s.safe (C.lk i).leave (C.lk i).heard wrong = (s.safe && (C.lk i).leave && (C.lk i).heard && !wrong)) := rfl
  generalize leavesL s.safe (C.lk i).leave (C.lk i).heard wrong = le at *
  generalize s.safe = b0 at *
  generalize (C.lk i).leave = b1 at *
  generalize (C.lk i).heard = b2 at *
  clear hQ hlc hla hv hl
  conv => arg 2; whnf
  rw [fr332]
  simp only [s4, s11, s13, s15, s16, s17, s18, s19, s20, s22, s23, s25, s26, s27]
  clear s4 s11 s13 s15 s16 s17 s18 s19 s20 s22 s23 s25 s26 s27
  cases b0 with
  | false =>
    go_wp2_with fail
    refine q_fr (N := 332) HQ.out rfl ⟨⟨⟨by rw [Hla.out]; rfl, rfl, rfl, rfl, rfl, rfl, rfl, rfl⟩, rfl, rfl, rfl, rfl, rfl, rfl⟩, by rw [Hle.out]; rfl, rfl⟩
  | true =>
    cases b1 with
    | false =>
      go_wp2_with fail
      refine q_fr (N := 332) HQ.out rfl ⟨⟨⟨by rw [Hla.out]; rfl, rfl, rfl, rfl, rfl, rfl, rfl, rfl⟩, rfl, rfl, rfl, rfl, rfl, rfl⟩, by rw [Hle.out]; rfl, rfl⟩
    | true =>
      cases b2 with
      | false =>
        go_wp2_with fail
        refine q_fr (N := 332) HQ.out rfl ⟨⟨⟨by rw [Hla.out]; rfl, rfl, rfl, rfl, rfl, rfl, rfl, rfl⟩, rfl, rfl, rfl, rfl, rfl, rfl⟩, by rw [Hle.out]; rfl, rfl⟩
      | true =>
        cases wrong with
        | false =>
          go_wp2_with fail
          refine q_fr (N := 332) HQ.out rfl ⟨⟨⟨by rw [Hla.out]; rfl, rfl, rfl, rfl, rfl, rfl, rfl, rfl⟩, rfl, rfl, rfl, rfl, rfl, rfl⟩, by rw [Hle.out]; rfl, rfl⟩
        | true =>
          go_wp2_with fail
          refine q_fr (N := 332) HQ.out rfl ⟨⟨⟨by rw [Hla.out]; rfl, rfl, rfl, rfl, rfl, rfl, rfl, rfl⟩, rfl, rfl, rfl, rfl, rfl, rfl⟩, by rw [Hle.out]; rfl, rfl⟩

set_option maxRecDepth 1000000 in
set_option maxHeartbeats 1000000 in
theorem law_55 (C : Cx) (hC : C.Ok) (V N vb : Nat) (lv tv nv : Value) (quiet i : Nat) (why : Int) (wrong : Bool) (W0 : World) (le : Bool) :
    Tri Try.prog 332 (pieceOf Try.f3 [1, 1, 1, 1, 1, 1, 1, 1, 1, 1, 1, 0, 1, 0, 0, 1, 0, 0, 1, 1, 1, 1, 1, 1, 1, 1, 1, 1, 1, 1, 1, 0]) (fun y w => SX C y V N vb lv tv nv quiet i C.n why wrong ∧ y 32 = .bool le ∧ w = W0)
      (fun _ _ y w => SX C y V N vb lv (if le = true then .slice none 0 0 else tv) nv quiet i C.n why wrong ∧ y 32 = .bool le ∧ w = W0) := by
  rintro Q y w ⟨hS, h32, rfl⟩ hQ
  have HQ := hid hQ
  obtain ⟨⟨s4, s11, s13, s15, s16, s17, s18, s19⟩, s20, s22, s23, s25, s26, s27⟩ := hS
  clear hQ
  conv => arg 2; whnf
  rw [fr332]
  simp only [s4, s11, s13, s15, s16, s17, s18, s19, s20, s22, s23, s25, s26, s27, h32]
  clear s4 s11 s13 s15 s16 s17 s18 s19 s20 s22 s23 s25 s26 s27 h32
  cases le with
  | false =>
    go_wp2_with fail
    refine q_fr (N := 332) HQ.out rfl ⟨⟨⟨rfl, rfl, rfl, rfl, rfl, rfl, ?_, rfl⟩, rfl, rfl, rfl, rfl, rfl, rfl⟩, rfl, rfl⟩
    rw [if_neg (by decide)]; rfl
  | true =>
    go_wp2_with fail
    refine q_fr (N := 332) HQ.out rfl ⟨⟨⟨rfl, rfl, rfl, rfl, rfl, rfl, ?_, rfl⟩, rfl, rfl, rfl, rfl, rfl, rfl⟩, rfl, rfl⟩
    first | rw [if_pos rfl] | skip
    rfl

set_option maxRecDepth 1000000 in
set_option maxHeartbeats 1000000 in
theorem law_sw (C : Cx) (hC : C.Ok) (V N vb : Nat) (lv tv nv : Value) (quiet i : Nat) (why : Int) (wrong : Bool) (W0 : World) (le : Bool) (s s' : St) (v v' : Vs) (hv : W0.heap[V]? = some (.cells (vRow C.n s v) 33)) (hn : W0.heap[N]? = some (.cells (vRow C.n s' v') 33)) (h1 : s.safe = true → le = false → s'.safe = true ∧ s'.why = s.why) (h2 : le = true → s'.safe = false ∧ s.safe = true) (h3 : s.safe = false → s'.why = why ∧ s'.safe = decide (why ≠ -1)) :
    Tri Try.prog 332 (pieceOf Try.f3 [1, 1, 1, 1, 1, 1, 1, 1, 1, 1, 1, 0, 1, 0, 0, 1, 0, 0, 1, 1, 1, 1, 1, 1, 1, 1, 1, 1, 1, 1, 1, 1, 0]) (fun y w => SX C y V N vb lv tv nv quiet i C.n why wrong ∧ y 32 = .bool le ∧ w = W0)
      (fun _ _ y w => SX C y V N vb lv tv nv quiet i C.n why wrong ∧ w = W0) := by
  rintro Q y w ⟨hS, h32, rfl⟩ hQ
  have HQ := hid hQ
  obtain ⟨⟨s4, s11, s13, s15, s16, s17, s18, s19⟩, s20, s22, s23, s25, s26, s27⟩ := hS
  clear hQ
  conv => arg 2; whnf
  rw [fr332]
  simp only [s4, s11, s13, s15, s16, s17, s18, s19, s20, s22, s23, s25, s26, s27, h32]
  clear s4 s11 s13 s15 s16 s17 s18 s19 s20 s22 s23 s25 s26 s27 h32
  have c0 : w.cell? ⟨V, 0, none⟩ = some (.bool s.safe) := by rw [cell_of_row _ _ _ _ _ _ hv]; rfl
  have c1 : w.cell? ⟨V, 1, none⟩ = some (.int .i64 s.why) := by rw [cell_of_row _ _ _ _ _ _ hv]; rfl
  have c2 : w.cell? ⟨N, 0, none⟩ = some (.bool s'.safe) := by rw [cell_of_row _ _ _ _ _ _ hn]; rfl
  have c3 : w.cell? ⟨N, 1, none⟩ = some (.int .i64 s'.why) := by rw [cell_of_row _ _ _ _ _ _ hn]; rfl
  clear hv hn
  generalize s.safe = b0 at *
  generalize s'.safe = b1 at *
  generalize s.why = z0 at *
  generalize s'.why = z1 at *
  cases le with
  | true =>
    obtain ⟨rfl, rfl⟩ := h2 rfl
    clear h1 h2 h3
    go_wp2_with fail
    exact q_fr (N := 332) HQ.out rfl ⟨⟨⟨rfl, rfl, rfl, rfl, rfl, rfl, rfl, rfl⟩, rfl, rfl, rfl, rfl, rfl, rfl⟩, rfl⟩
  | false =>
    cases b0 with
    | true =>
      obtain ⟨rfl, rfl⟩ := h1 rfl rfl
      clear h1 h2 h3
      go_wp2_with fail
      exact q_fr (N := 332) HQ.out rfl ⟨⟨⟨rfl, rfl, rfl, rfl, rfl, rfl, rfl, rfl⟩, rfl, rfl, rfl, rfl, rfl, rfl⟩, rfl⟩
    | false =>
      obtain ⟨rfl, h4⟩ := h3 rfl
      clear h1 h2 h3
      by_cases h5 : z1 = -1
      · subst h5
        obtain rfl : b1 = false := by rw [h4]; rfl
        clear h4
        go_wp2_with fail
        exact q_fr (N := 332) HQ.out rfl ⟨⟨⟨rfl, rfl, rfl, rfl, rfl, rfl, rfl, rfl⟩, rfl, rfl, rfl, rfl, rfl, rfl⟩, rfl⟩
      · obtain rfl : b1 = true := by rw [h4]; exact decide_eq_true h5
        have d1 : (z1 != -1) = true := by rw [bne_iff_ne]; exact h5
        clear h4 h5
        go_wp2_with fail
        exact q_fr (N := 332) HQ.out rfl ⟨⟨⟨rfl, rfl, rfl, rfl, rfl, rfl, rfl, rfl⟩, rfl, rfl, rfl, rfl, rfl, rfl⟩, rfl⟩

set_option maxRecDepth 1000000 in
set_option maxHeartbeats 1000000 in
theorem law_65 (C : Cx) (hC : C.Ok) (V N vb : Nat) (lv tv nv : Value) (quiet i : Nat) (why : Int) (wrong : Bool) (W0 : World) (s s' : St) (v v' : Vs) (hv : W0.heap[V]? = some (.cells (vRow C.n s v) 33)) (hn : W0.heap[N]? = some (.cells (vRow C.n s' v') 33)) :
    Tri Try.prog 332 (pieceOf Try.f3 [1, 1, 1, 1, 1, 1, 1, 1, 1, 1, 1, 0, 1, 0, 0, 1, 0, 0, 1, 1, 1, 1, 1, 1, 1, 1, 1, 1, 1, 1, 1, 1, 1, 0]) (fun y w => SX C y V N vb lv tv nv quiet i C.n why wrong ∧ w = W0)
      (fun _ _ y w => SX C y V N vb lv tv nv quiet i C.n why wrong ∧ y 33 = .bool (s'.safe && !s.safe) ∧ w = W0) := by
  rintro Q y w ⟨hS, rfl⟩ hQ
  have HQ := hid hQ
  obtain ⟨⟨s4, s11, s13, s15, s16, s17, s18, s19⟩, s20, s22, s23, s25, s26, s27⟩ := hS
  clear hQ
  conv => arg 2; whnf
  rw [fr332]
  simp only [s4, s11, s13, s15, s16, s17, s18, s19, s20, s22, s23, s25, s26, s27]
  clear s4 s11 s13 s15 s16 s17 s18 s19 s20 s22 s23 s25 s26 s27 
  have c0 : w.cell? ⟨V, 0, none⟩ = some (.bool s.safe) := by rw [cell_of_row _ _ _ _ _ _ hv]; rfl
  have c2 : w.cell? ⟨N, 0, none⟩ = some (.bool s'.safe) := by rw [cell_of_row _ _ _ _ _ _ hn]; rfl
  clear hv hn
  generalize s.safe = b0 at *
  generalize s'.safe = b1 at *
  cases b1 with
  | false =>
    go_wp2_with fail
    exact q_fr (N := 332) HQ.out rfl ⟨⟨⟨rfl, rfl, rfl, rfl, rfl, rfl, rfl, rfl⟩, rfl, rfl, rfl, rfl, rfl, rfl⟩, rfl, rfl⟩
  | true =>
    cases b0 with
    | false =>
      go_wp2_with fail
      exact q_fr (N := 332) HQ.out rfl ⟨⟨⟨rfl, rfl, rfl, rfl, rfl, rfl, rfl, rfl⟩, rfl, rfl, rfl, rfl, rfl, rfl⟩, rfl, rfl⟩
    | true =>
      go_wp2_with fail
      exact q_fr (N := 332) HQ.out rfl ⟨⟨⟨rfl, rfl, rfl, rfl, rfl, rfl, rfl, rfl⟩, rfl, rfl, rfl, rfl, rfl, rfl⟩, rfl, rfl⟩

end Go.Proofs.Ytkgnelmnadnbhaa
