/- Keys: bits.Len: a number below 2 to the k has at most k bits. -/
import Derived.Test.YtdeeilahefnicaaFits
import Derived.Lib.BitFns
namespace Go.Proofs.Ytdeeilahefnicaa
set_option linter.unusedVariables false
open Go.RowKit

set_option maxRecDepth 100000 in
theorem tab_le (n : Nat) (h : n < Lib.len8tab.size) : ∀ j, j ≤ 8 → n < 2 ^ j → Lib.len8tab[n].toNat ≤ j := by
  have h1 : ∀ n : Fin 256, ∀ j : Fin 9, n.val < 2 ^ j.val → (Lib.len8tab.data.getD n.val 0).toNat ≤ j.val := by decide +kernel
  intro j hj hn
  have h2 := h1 ⟨n, by rw [Lib.len8tab_size] at h; exact h⟩ ⟨j, by omega⟩ hn
  have h3 : Lib.len8tab.data.getD n 0 = Lib.len8tab[n] := by
    have h' : n < Lib.len8tab.data.size := h
    rw [Array.getD, dif_pos h']; rfl
  rw [← h3]
  exact h2
theorem len_bound (x k b v : Nat) (hx : x < 2 ^ k) (hb : b = 0 ∨ 2 ^ b ≤ x) (hq : x / 2 ^ b < 256) (hv : ∀ j, j ≤ 8 → x / 2 ^ b < 2 ^ j → v ≤ j) : b + v ≤ k := by
  have hbk : b ≤ k := by
    rcases hb with h | h
    · omega
    · rcases Nat.lt_or_ge k b with h1 | h1
      · have := Nat.pow_lt_pow_right (a := 2) (by decide) h1
        omega
      · exact h1
  have h1 : x / 2 ^ b < 2 ^ (k - b) := by
    apply Nat.div_lt_of_lt_mul
    rw [← Nat.pow_add, show b + (k - b) = k by omega]; exact hx
  rcases Nat.lt_or_ge (k - b) 8 with h2 | h2
  · have := hv (k - b) (by omega) h1; omega
  · have := hv 8 (Nat.le_refl _) hq; omega
theorem w64s (z : Int) (h0 : 0 ≤ z) (h1 : z ≤ 1000) : wrap64 z = z := by unfold wrap64; omega

theorem leaf (x q : Int) (k b : Nat) (B : Int) (hB : B = (b : Int)) (hb2 : b ≤ 56) (hx : x.toNat < 2 ^ k) (hb : b = 0 ∨ 2 ^ b ≤ x.toNat) (hq : q.toNat = x.toNat / 2 ^ b) (h : q.toNat < 256) (hlt : q.toNat < Lib.len8tab.size) :
    0 ≤ wrap64 (B + wrap64 (Lib.len8tab[q.toNat].toNat : Int)) ∧ wrap64 (B + wrap64 (Lib.len8tab[q.toNat].toNat : Int)) ≤ (k : Int) := by
  have h1 := tab_le q.toNat hlt
  have h8 := h1 8 (Nat.le_refl _) h
  have h2 := len_bound x.toNat k b (Lib.len8tab[q.toNat].toNat) hx hb (by rw [← hq]; exact h) (fun j hj hn => h1 j hj (by rw [hq]; exact hn))
  generalize Lib.len8tab[q.toNat].toNat = v at *
  subst hB
  rw [w64s (v : Int) (by omega) (by omega), w64s _ (by omega) (by omega)]
  omega

set_option maxHeartbeats 4000000 in
set_option maxRecDepth 100000 in
theorem len64_ok (x : Int) (k : Nat) (w : World) (h0 : 0 ≤ x) (h1 : x ≤ 4611686018427387903) (hk : k ≤ 62) (hx : x.toNat < 2 ^ k) :
    Calls Try.prog 32 #[.int .u64 x] w fun e w' => ∃ r : Int, e = .returned (.int .i64 r) ∧ (0 ≤ r ∧ r ≤ (k : Int)) ∧ w = w' := by
  have hsz : Lib.len8tab.size = 256 := by kernel_rfl
  have HX := hid hx
  have HK := hid hk
  clear hx hk
  go_enter Try.func32, Try.ntmps32
  go_wp2
  all_goals go_ret
  all_goals refine ⟨_, rfl, ?_⟩
  · exact ⟨leaf x (x / 4294967296 / 65536 / 256) k 56 56 rfl (by decide) HX.out (.inr (by rw [show (2 : Nat) ^ 56 = 72057594037927936 by decide]; omega)) (by rw [show (2 : Nat) ^ 56 = 72057594037927936 by decide]; omega) (by omega) (by rw [hsz]; omega), rfl⟩
  · exact ⟨leaf x (x / 4294967296 / 65536) k 48 48 rfl (by decide) HX.out (.inr (by rw [show (2 : Nat) ^ 48 = 281474976710656 by decide]; omega)) (by rw [show (2 : Nat) ^ 48 = 281474976710656 by decide]; omega) (by omega) (by rw [hsz]; omega), rfl⟩
  · exact ⟨leaf x (x / 4294967296 / 256) k 40 40 rfl (by decide) HX.out (.inr (by rw [show (2 : Nat) ^ 40 = 1099511627776 by decide]; omega)) (by rw [show (2 : Nat) ^ 40 = 1099511627776 by decide]; omega) (by omega) (by rw [hsz]; omega), rfl⟩
  · exact ⟨leaf x (x / 4294967296) k 32 32 rfl (by decide) HX.out (.inr (by rw [show (2 : Nat) ^ 32 = 4294967296 by decide]; omega)) (by rw [show (2 : Nat) ^ 32 = 4294967296 by decide]; omega) (by omega) (by rw [hsz]; omega), rfl⟩
  · exact ⟨leaf x (x / 65536 / 256) k 24 24 rfl (by decide) HX.out (.inr (by rw [show (2 : Nat) ^ 24 = 16777216 by decide]; omega)) (by rw [show (2 : Nat) ^ 24 = 16777216 by decide]; omega) (by omega) (by rw [hsz]; omega), rfl⟩
  · exact ⟨leaf x (x / 65536) k 16 16 rfl (by decide) HX.out (.inr (by rw [show (2 : Nat) ^ 16 = 65536 by decide]; omega)) (by rw [show (2 : Nat) ^ 16 = 65536 by decide]; omega) (by omega) (by rw [hsz]; omega), rfl⟩
  · exact ⟨leaf x (x / 256) k 8 8 rfl (by decide) HX.out (.inr (by rw [show (2 : Nat) ^ 8 = 256 by decide]; omega)) (by rw [show (2 : Nat) ^ 8 = 256 by decide]; omega) (by omega) (by rw [hsz]; omega), rfl⟩
  · have h9 := leaf x x k 0 0 rfl (by decide) HX.out (.inl rfl) (by simp) (by omega) (by rw [hsz]; omega)
    rw [Int.zero_add] at h9
    exact ⟨h9, rfl⟩
theorem len_ok (x : Int) (k : Nat) (w : World) (h0 : 0 ≤ x) (h1 : x ≤ 4611686018427387903) (hk : k ≤ 62) (hx : x.toNat < 2 ^ k) :
    Calls Try.prog 21 #[.int .u64 x] w fun e w' => ∃ r : Int, e = .returned (.int .i64 r) ∧ (0 ≤ r ∧ r ≤ (k : Int)) ∧ w = w' := by
  have HX := hid hx
  clear hx
  go_enter Try.func21, Try.ntmps21
  go_wp2_with fail
  refine (len64_ok x k w h0 h1 hk HX.out).mono ?_
  rintro e w' ⟨r, rfl, hr, rfl⟩
  go_wp2_with fail
  go_ret
  exact ⟨r, rfl, hr, rfl⟩
end Go.Proofs.Ytdeeilahefnicaa
