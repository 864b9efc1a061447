/- pair: both symbols of a bit behind a state. -/
import Derived.Test.YtaedanklpedmkaaProg
import Derived.Test.YtaedanklpedmkaaArith
import Derived.Test.YtaedanklpedmkaaSl
namespace Go.Proofs.Ytaedanklpedmkaa
set_option linter.unusedVariables false
open Go.RowKit

/-- how many bits are 1, below 128: the steps of OnesCount64 -/
def oA (x : Nat) : Nat := x / 2 &&& 85
def oB (x : Nat) : Nat := x &&& 85
def oS (x : Nat) : Nat := oA x + oB x
def oC (x : Nat) : Nat := oS x / 4 &&& 51
def oD (x : Nat) : Nat := oS x &&& 51
def oT (x : Nat) : Nat := oC x + oD x
def oV (x : Nat) : Nat := oT x / 16 + oT x
def pop (x : Nat) : Nat := oV x &&& 15
structure Ones (x a b s c d t v u : Nat) : Prop where
  f1 : bits .and .u64 ((x : Int) / 2) 6148914691236517205 = (a : Int)
  f2 : bits .and .u64 (x : Int) 6148914691236517205 = (b : Int)
  f3 : IntKind.u64.wrap ((a : Int) + (b : Int)) = (s : Int)
  f4 : bits .and .u64 ((s : Int) / 4) 3689348814741910323 = (c : Int)
  f5 : bits .and .u64 (s : Int) 3689348814741910323 = (d : Int)
  f6 : IntKind.u64.wrap ((c : Int) + (d : Int)) = (t : Int)
  f7 : IntKind.u64.wrap ((t : Int) / 16 + (t : Int)) = (v : Int)
  f8 : bits .and .u64 (v : Int) 1085102592571150095 = (u : Int)
  f9 : IntKind.u64.wrap ((u : Int) + (u : Int) / 256) = (u : Int)
  f10 : IntKind.u64.wrap ((u : Int) + (u : Int) / 65536) = (u : Int)
  f11 : IntKind.u64.wrap ((u : Int) + (u : Int) / 4294967296) = (u : Int)
  f12 : bits .and .i64 (u : Int) 127 = (u : Int)
  f13 : u < 8
theorem ones_facts (x : Nat) (h : x < 128) : Ones x (oA x) (oB x) (oS x) (oC x) (oD x) (oT x) (oV x) (pop x) := by
  have g1 : ∀ x : Nat, x < 128 → bits .and .u64 ((x : Int) / 2) 6148914691236517205 = (oA x : Int) := by decide +kernel
  have g2 : ∀ x : Nat, x < 128 → bits .and .u64 (x : Int) 6148914691236517205 = (oB x : Int) := by decide +kernel
  have g3 : ∀ x : Nat, x < 128 → IntKind.u64.wrap ((oA x : Int) + (oB x : Int)) = (oS x : Int) := by decide +kernel
  have g4 : ∀ x : Nat, x < 128 → bits .and .u64 ((oS x : Int) / 4) 3689348814741910323 = (oC x : Int) := by decide +kernel
  have g5 : ∀ x : Nat, x < 128 → bits .and .u64 (oS x : Int) 3689348814741910323 = (oD x : Int) := by decide +kernel
  have g6 : ∀ x : Nat, x < 128 → IntKind.u64.wrap ((oC x : Int) + (oD x : Int)) = (oT x : Int) := by decide +kernel
  have g7 : ∀ x : Nat, x < 128 → IntKind.u64.wrap ((oT x : Int) / 16 + (oT x : Int)) = (oV x : Int) := by decide +kernel
  have g8 : ∀ x : Nat, x < 128 → bits .and .u64 (oV x : Int) 1085102592571150095 = (pop x : Int) := by decide +kernel
  have g9 : ∀ x : Nat, x < 128 → IntKind.u64.wrap ((pop x : Int) + (pop x : Int) / 256) = (pop x : Int) := by decide +kernel
  have g10 : ∀ x : Nat, x < 128 → IntKind.u64.wrap ((pop x : Int) + (pop x : Int) / 65536) = (pop x : Int) := by decide +kernel
  have g11 : ∀ x : Nat, x < 128 → IntKind.u64.wrap ((pop x : Int) + (pop x : Int) / 4294967296) = (pop x : Int) := by decide +kernel
  have g12 : ∀ x : Nat, x < 128 → bits .and .i64 (pop x : Int) 127 = (pop x : Int) := by decide +kernel
  have g13 : ∀ x : Nat, x < 128 → pop x < 8 := by decide +kernel
  exact ⟨g1 x h, g2 x h, g3 x h, g4 x h, g5 x h, g6 x h, g7 x h, g8 x h, g9 x h, g10 x h, g11 x h, g12 x h, g13 x h⟩

set_option maxRecDepth 100000 in
theorem ones64 (x : Nat) (w : World) (hx : x < 128) : Calls Try.prog 25 #[.int .u64 (x : Int)] w fun e w' => e = .returned (.int .i64 (pop x : Nat)) ∧ w' = w := by
  obtain ⟨f1, f2, f3, f4, f5, f6, f7, f8, f9, f10, f11, f12, f13⟩ := ones_facts x hx
  generalize oA x = a at *
  generalize oB x = b at *
  generalize oS x = s at *
  generalize oC x = c at *
  generalize oD x = d at *
  generalize oT x = t at *
  generalize oV x = v at *
  generalize pop x = u at *
  go_enter Try.func25, Try.ntmps25
  go_wp2
  go_ret
  exact ⟨rfl, rfl⟩
theorem ones (x : Nat) (w : World) (hx : x < 128) : Calls Try.prog 21 #[.int .u64 (x : Int)] w fun e w' => e = .returned (.int .i64 (pop x : Nat)) ∧ w' = w := by
  go_enter Try.func21, Try.ntmps21
  go_wp2_with fail
  refine (ones64 x w hx).mono ?_
  rintro e w' ⟨rfl, rfl⟩
  go_wp2
  go_ret
  exact ⟨rfl, rfl⟩
/-- the symbols of the seven bits w -/
def q1 (w : Nat) : Nat := pop (w &&& 79) % 2
def q2 (w : Nat) : Nat := 1 - pop (w &&& 109) % 2
theorem q1_lt (w : Nat) : q1 w < 2 := Nat.mod_lt _ (by decide)
theorem q2_lt (w : Nat) : q2 w < 2 := by unfold q2; omega
set_option maxRecDepth 100000 in
theorem pair_ok (b s : Nat) (w : World) (hb : b < 2) (hs : s < 64) : Calls Try.prog 12 #[.int .i64 (b : Int), .int .i64 (s : Int)] w fun e w' => e = .returned (.tuple #[.int .i64 (q1 (2 * s + b) : Nat), .int .i64 (q2 (2 * s + b) : Nat)]) ∧ w' = w := by
  have g1 : ∀ s : Nat, s < 64 → ∀ b : Nat, b < 2 → bits .or .i64 ((s : Int) * 2) (b : Int) = ((2 * s + b : Nat) : Int) := by decide +kernel
  have e1 := g1 s hs b hb
  have g2 : ∀ x : Nat, x < 128 → bits .and .u64 (x : Int) 79 = ((x &&& 79 : Nat) : Int) := by decide +kernel
  have g3 : ∀ x : Nat, x < 128 → bits .and .u64 (x : Int) 109 = ((x &&& 109 : Nat) : Int) := by decide +kernel
  have g4 : ∀ x : Nat, x < 128 → bits .and .i64 (pop (x &&& 79) : Int) 1 = ((pop (x &&& 79) % 2 : Nat) : Int) := by decide +kernel
  have g5 : ∀ x : Nat, x < 128 → bits .and .i64 (pop (x &&& 109) : Int) 1 = ((pop (x &&& 109) % 2 : Nat) : Int) := by decide +kernel
  obtain ⟨x, hx⟩ : ∃ x, x = 2 * s + b := ⟨_, rfl⟩
  have hx7 : x < 128 := by omega
  rw [← hx] at e1 ⊢
  have h2 := g2 x hx7
  have h3 := g3 x hx7
  have h4 := g4 x hx7
  have h5 := g5 x hx7
  have k1 := ones (x &&& 79) w (Nat.lt_of_le_of_lt Nat.and_le_left hx7)
  have k2 := ones (x &&& 109) w (Nat.lt_of_le_of_lt Nat.and_le_left hx7)
  unfold q1 q2
  have hm := Nat.mod_lt (pop (x &&& 109)) (show 0 < 2 by decide)
  generalize pop (x &&& 79) % 2 = r1 at *
  generalize pop (x &&& 109) % 2 = r2 at *
  generalize pop (x &&& 79) = p1 at *
  generalize pop (x &&& 109) = p2 at *
  generalize x &&& 79 = y1 at *
  generalize x &&& 109 = y2 at *
  clear g1 g2 g3 g4 g5
  clear hx
  go_enter Try.func12, Try.ntmps12
  go_wp2_with fail
  refine k1.mono ?_
  rintro e w' ⟨rfl, rfl⟩
  go_wp2_with fail
  refine k2.mono ?_
  rintro e w' ⟨rfl, rfl⟩
  go_wp2
  go_ret2
  exact ⟨by rw [show ((1 - r2 : Nat) : Int) = 1 - (r2 : Int) by omega]; rfl, rfl⟩
end Go.Proofs.Ytaedanklpedmkaa
