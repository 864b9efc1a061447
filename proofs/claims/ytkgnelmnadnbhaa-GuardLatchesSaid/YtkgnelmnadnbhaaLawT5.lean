/- GuardLatches: the law looks at all monitors; it counts the trips. -/
import Derived.Test.YtkgnelmnadnbhaaLawT4c
import Derived.Deep.CutBlock
namespace Go.Proofs.Ytkgnelmnadnbhaa
set_option linter.unusedVariables false
open Go.RowKit

def MonsI (C : Cx) (V N vb : Nat) (lv nv : Value) (quiet i : Nat) (u : LW) (s s' : St) (v v' : Vs) (names : List ByteArray) (na : Option Addr) (nc : Nat) (vals : List Int) (y : Nat → Value) (W : World) : Prop :=
  ∃ (k : Nat) (tv' : Value), k ≤ C.n ∧ SX C y V N vb lv tv' nv quiet i k (lwTo C.ms vals i u k).why (lwTo C.ms vals i u k).wrong ∧ AfterStep C W V N s s' v v' names na nc vb vals lv (lwTo C.ms vals i u k).long tv' (lwTo C.ms vals i u k).trips
set_option maxRecDepth 1000000 in
set_option maxHeartbeats 1000000 in
theorem law_mons (C : Cx) (hC : C.Ok) (V N vb : Nat) (lv tv nv : Value) (quiet i : Nat) (u : LW) (s s' : St) (v v' : Vs) (names : List ByteArray) (na : Option Addr) (nc : Nat) (vals : List Int) (W0 : World) (hi : i < 300) (ht : u.trips.length ≤ i * C.n) (hb : ∀ k, nth u.long k ≤ i) (hvl : vals.length = 3)
    (hA : AfterStep C W0 V N s s' v v' names na nc vb vals lv u.long tv u.trips) :
    Tri Try.prog 332 (pieceOf Try.f3 [1, 1, 1, 1, 1, 1, 1, 1, 1, 1, 1, 0, 1, 0, 0, 1, 0, 0, 1, 1, 1, 1, 1, 1, 1, 0, 1]) (fun y w => SX C y V N vb lv tv nv quiet i 0 u.why u.wrong ∧ w = W0)
      (fun _ _ y w => ∃ tv', SX C y V N vb lv tv' nv quiet i C.n (lwTo C.ms vals i u C.n).why (lwTo C.ms vals i u C.n).wrong ∧ AfterStep C w V N s s' v v' names na nc vb vals lv (lwTo C.ms vals i u C.n).long tv' (lwTo C.ms vals i u C.n).trips) := by
  rintro Q y w ⟨hS, rfl⟩ hQ
  have hn := hC.gg.n2
  have HQ := hid hQ
  have hto := lwTo_long C.ms vals i i u hb
  clear hQ
  conv => arg 2; whnf
  obtain ⟨⟨s4, s11, s13, s15, s16, s17, s18, s19⟩, s20, s22, s23, s25, s26, s27⟩ := hS
  rw [fr332]
  simp only [s4, s11, s13, s15, s16, s17, s18, s19, s20, s22, s23, s25, s26, s27]
  clear s4 s11 s13 s15 s16 s17 s18 s19 s20 s22 s23 s25 s26 s27
  refine wp_block ?_
  refine wp_loop_fr 332 (MonsI C V N vb lv nv quiet i u s s' v v' names na nc vals) (fun y' _ => C.n - (intOf (y' 27)).toNat)
    ⟨rfl, rfl, 0, tv, Nat.zero_le _, ⟨⟨rfl, rfl, rfl, rfl, rfl, rfl, rfl, rfl⟩, rfl, rfl, rfl, rfl, rfl, rfl⟩, hA⟩ ?_
  clear hA
  rintro z W ⟨k, tv1, hk, ⟨⟨s4, s11, s13, s15, s16, s17, s18, s19⟩, s20, s22, s23, s25, s26, s27⟩, hA⟩
  obtain ⟨h1, h2, h3, h4⟩ := hto k
  rw [fr332]
  simp only [s4, s11, s13, s15, s16, s17, s18, s19, s20, s22, s23, s25, s26, s27]
  clear s4 s11 s13 s15 s16 s17 s18 s19 s20 s22 s23 s25 s26 s27
  by_cases hlt : k < C.n
  · have HA := hid hA
    have hmul : i * C.n ≤ 300 * 9 := Nat.mul_le_mul (by omega) hn
    have hmon := hid (law_mon C hC V N vb lv tv1 nv quiet i k (lwTo C.ms vals i u k) s s' v v' names na nc vals W hlt hi (by omega) (by have := h1 k; omega) hvl hA)
    have Hs : Hid (lwTo C.ms vals i u (k + 1) = lw1 C.ms vals i (lwTo C.ms vals i u k) k) := rfl
    clear h1 h2 h3 h4 hmul hA
    generalize lwTo C.ms vals i u k = U at *
    generalize hq : lwTo C.ms vals i u (k + 1) = U' at *
    have Hq := hid hq
    clear hq
    go_upto_block 7 with (fail)
    refine wp_block ?_
    refine Tri.use hmon.out rfl ⟨⟨⟨rfl, rfl, rfl, rfl, rfl, rfl, rfl, rfl⟩, rfl, rfl, rfl, rfl, rfl, rfl⟩, rfl⟩ ?_
    rintro y' w' ⟨tv2, ⟨⟨s4, s11, s13, s15, s16, s17, s18, s19⟩, s20, s22, s23, s25, s26, s27⟩, hA2⟩
    rw [← Hs.out] at hA2
    rw [← Hs.out] at s25 s26
    have HA2 := hid hA2
    clear hA2
    rw [fr332]
    simp only [s4, s11, s13, s15, s16, s17, s18, s19, s20, s22, s23, s25, s26, s27]
    clear s4 s11 s13 s15 s16 s17 s18 s19 s20 s22 s23 s25 s26 s27
    go_wp2_with fail
    refine ⟨rfl, rfl, ⟨k + 1, tv2, by omega, ?_, ?_⟩, ?_⟩
    · rw [Hq.out]
      refine ⟨⟨rfl, rfl, rfl, rfl, rfl, rfl, rfl, rfl⟩, rfl, rfl, rfl, rfl, rfl, ?_⟩
      show Value.int .i64 _ = Value.int .i64 _
      go_num
    · rw [Hq.out]; exact HA2.out
    · show C.n - (intOf (Value.int .i64 _)).toNat < _
      simp [intOf]
      omega
  · obtain rfl : k = C.n := by omega
    have HA := hid hA
    clear h1 h2 h3 h4 hA
    generalize hq : lwTo C.ms vals i u C.n = U at *
    have Hq := hid hq
    clear hq
    go_wp2_with fail
    exact q_fr (N := 332) HQ.out rfl ⟨tv1, ⟨⟨rfl, rfl, rfl, rfl, rfl, rfl, rfl, rfl⟩, rfl, rfl, rfl, rfl, rfl, rfl⟩, HA.out⟩
end Go.Proofs.Ytkgnelmnadnbhaa
