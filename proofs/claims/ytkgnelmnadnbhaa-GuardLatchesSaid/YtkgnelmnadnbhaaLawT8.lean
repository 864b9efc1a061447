/- GuardLatches: what the law concludes in a tick: the names; the next vigil. -/
import Derived.Test.YtkgnelmnadnbhaaLawT7
namespace Go.Proofs.Ytkgnelmnadnbhaa
set_option linter.unusedVariables false
open Go.RowKit

set_option maxRecDepth 1000000 in
set_option maxHeartbeats 1000000 in
theorem law_66 (C : Cx) (hC : C.Ok) (V N vb : Nat) (lv tv nv : Value) (quiet i : Nat) (why : Int) (wrong : Bool) (W0 : World) (made : Bool) (names : List ByteArray) (na : Option Addr) (nc : Nat) (hnv : nv = .slice na names.length nc) (hnm : Rd W0 na names.length nc (vsS names)) (hl : names.length ≤ 100) (hmd : made = decide (names.getD 0 ByteArray.empty = C.nam)) :
    Tri Try.prog 332 (pieceOf Try.f3 [1, 1, 1, 1, 1, 1, 1, 1, 1, 1, 1, 0, 1, 0, 0, 1, 0, 0, 1, 1, 1, 1, 1, 1, 1, 1, 1, 1, 1, 1, 1, 1, 1, 1, 0]) (fun y w => SX C y V N vb lv tv nv quiet i C.n why wrong ∧ y 33 = .bool made ∧ w = W0)
      (fun _ _ y w => SX C y V N vb lv tv nv quiet i C.n why wrong ∧ w = W0) := by
  subst hnv
  rintro Q y w ⟨hS, h33, rfl⟩ hQ
  have HQ := hid hQ
  obtain ⟨⟨s4, s11, s13, s15, s16, s17, s18, s19⟩, s20, s22, s23, s25, s26, s27⟩ := hS
  clear hQ
  conv => arg 2; whnf
  rw [fr332]
  simp only [s4, s11, s13, s15, s16, s17, s18, s19, s20, s22, s23, s25, s26, s27, h33]
  clear s4 s11 s13 s15 s16 s17 s18 s19 s20 s22 s23 s25 s26 s27 h33
  cases names with
  | nil =>
    have hne : made = false := by
      rw [hmd]
      exact decide_eq_false (fun h => hC.ne (by rw [← h]; rfl))
    subst hne
    clear hmd hnm
    go_wp2_with fail
    exact q_fr (N := 332) HQ.out rfl ⟨⟨⟨rfl, rfl, rfl, rfl, rfl, rfl, rfl, rfl⟩, rfl, rfl, rfl, rfl, rfl, rfl⟩, rfl⟩
  | cons a l =>
    obtain ⟨ab, ao, rfl, hab, hac⟩ := hnm.mem (by simp)
    have c0 := hac 0 (by simp)
    have c0 : w.cell? ⟨ab, ao, none⟩ = some (.string a) := c0
    have hL0 : 0 < (a :: l).length := by simp
    generalize hlen : (a :: l).length = L at *
    have Hlen := hid hlen
    have d0 : decide ((0 : Int) < (L : Int)) = true := decide_eq_true (by omega)
    have d1 : decide (0 < L) = true := decide_eq_true hL0
    by_cases e : a = C.nam
    · have hm1 : made = true := by rw [hmd]; exact decide_eq_true e
      subst hm1
      rw [hC.ns] at e
      subst e
      clear hmd hnm hac hlen
      go_wp2_with fail
      exact q_fr (N := 332) HQ.out rfl ⟨⟨⟨rfl, rfl, rfl, rfl, rfl, rfl, rfl, rfl⟩, rfl, rfl, rfl, rfl, rfl, rfl⟩, rfl⟩
    · have hm1 : made = false := by rw [hmd]; exact decide_eq_false e
      subst hm1
      rw [hC.ns] at e
      have e2 : (a.toList == [115, 97, 102, 101]) = false := by
        rw [beq_eq_false_iff_ne, ByteArray.toList_eq]
        obtain ⟨⟨d⟩⟩ := a
        exact fun h => e (by rw [show d = [115, 97, 102, 101] from h])
      clear e
      clear hmd hnm hac hlen
      go_wp2_with fail
      exact q_fr (N := 332) HQ.out rfl ⟨⟨⟨rfl, rfl, rfl, rfl, rfl, rfl, rfl, rfl⟩, rfl, rfl, rfl, rfl, rfl, rfl⟩, rfl⟩

set_option maxRecDepth 1000000 in
set_option maxHeartbeats 1000000 in
theorem law_68 (C : Cx) (hC : C.Ok) (V N vb : Nat) (lv tv nv : Value) (quiet i : Nat) (why : Int) (wrong : Bool) (W0 : World) (s s' : St) (v v' : Vs) (hv : W0.heap[V]? = some (.cells (vRow C.n s v) 33)) (hn : W0.heap[N]? = some (.cells (vRow C.n s' v') 33)) :
    Tri Try.prog 332 (pieceOf Try.f3 [1, 1, 1, 1, 1, 1, 1, 1, 1, 1, 1, 0, 1, 0, 0, 1, 0, 0, 1, 1, 1, 1, 1, 1, 1, 1, 1, 1, 1, 1, 1, 1, 1, 1, 1]) (fun y w => SX C y V N vb lv tv nv quiet i C.n why wrong ∧ w = W0)
      (fun _ _ y w => SX C y V N vb lv tv nv quiet i C.n why wrong ∧ w.heap[V]? = some (.cells (vRow C.n s' v') 33) ∧ W0.grownBy w (some V)) := by
  rintro Q y w ⟨hS, rfl⟩ hQ
  have HQ := hid hQ
  obtain ⟨⟨s4, s11, s13, s15, s16, s17, s18, s19⟩, s20, s22, s23, s25, s26, s27⟩ := hS
  clear hQ
  conv => arg 2; whnf
  rw [fr332]
  simp only [s4, s11, s13, s15, s16, s17, s18, s19, s20, s22, s23, s25, s26, s27]
  clear s4 s11 s13 s15 s16 s17 s18 s19 s20 s22 s23 s25 s26 s27 
  unfold vRow at *
  have n0 : w.cell? ⟨N, 0, none⟩ = some (.bool s'.safe) := by rw [cell_of_row _ _ _ _ _ _ hn]; rfl
  have n1 : w.cell? ⟨N, 1, none⟩ = some (.int .i64 s'.why) := by rw [cell_of_row _ _ _ _ _ _ hn]; rfl
  have n2 : w.cell? ⟨N, 2, none⟩ = some (.slice v'.ba C.n v'.bc) := by rw [cell_of_row _ _ _ _ _ _ hn]; rfl
  have n3 : w.cell? ⟨N, 3, none⟩ = some (.slice v'.ta C.n v'.tc) := by rw [cell_of_row _ _ _ _ _ _ hn]; rfl
  have n4 : w.cell? ⟨N, 4, none⟩ = some (.int .i64 (s'.quiet : Int)) := by rw [cell_of_row _ _ _ _ _ _ hn]; rfl
  have n5 : w.cell? ⟨N, 5, none⟩ = some (.slice v'.pa s'.trips.length v'.pc) := by rw [cell_of_row _ _ _ _ _ _ hn]; rfl
  obtain ⟨q6, g6⟩ := sixG hv (.bool s'.safe) (.int .i64 s'.why) (.slice v'.ba C.n v'.bc) (.slice v'.ta C.n v'.tc) (.int .i64 (s'.quiet : Int)) (.slice v'.pa s'.trips.length v'.pc)
  have z0 : w.cell? ⟨V, 0, none⟩ = some (.bool s.safe) := by rw [cell_of_row _ _ _ _ _ _ hv]; rfl
  have z1 : w.cell? ⟨V, 1, none⟩ = some (.int .i64 s.why) := by rw [cell_of_row _ _ _ _ _ _ hv]; rfl
  have z2 : w.cell? ⟨V, 2, none⟩ = some (.slice v.ba C.n v.bc) := by rw [cell_of_row _ _ _ _ _ _ hv]; rfl
  have z3 : w.cell? ⟨V, 3, none⟩ = some (.slice v.ta C.n v.tc) := by rw [cell_of_row _ _ _ _ _ _ hv]; rfl
  have z4 : w.cell? ⟨V, 4, none⟩ = some (.int .i64 (s.quiet : Int)) := by rw [cell_of_row _ _ _ _ _ _ hv]; rfl
  have z5 : w.cell? ⟨V, 5, none⟩ = some (.slice v.pa s.trips.length v.pc) := by rw [cell_of_row _ _ _ _ _ _ hv]; rfl
  have fz := frozen_row hv
  have Q6 := hid q6
  have G6 := hid g6
  clear q6 g6 hv hn
  go_wp2_with fail
  exact q_fr (N := 332) HQ.out rfl ⟨⟨⟨rfl, rfl, rfl, rfl, rfl, rfl, rfl, rfl⟩, rfl, rfl, rfl, rfl, rfl, rfl⟩, Q6.out, G6.out⟩

end Go.Proofs.Ytkgnelmnadnbhaa
