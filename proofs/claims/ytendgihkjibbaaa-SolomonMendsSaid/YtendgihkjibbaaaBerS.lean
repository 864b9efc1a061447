/- What locator finds: the polynomial whose zeros are the places that are wrong. -/
import Derived.Test.YtendgihkjibbaaaCodeS
import Derived.Test.YtendgihkjibbaaaPoints
namespace Go.Proofs.Ytendgihkjibbaaa
set_option linter.unusedVariables false
open GF

/-- coefficient j of a product -/
def cvs (F S : Nat → GF) (j : Nat) : GF := sm (fun i => F i * S (j - i)) (j + 1)
/-- a value -/
def pe (F : Nat → GF) (N : Nat) (y : GF) : GF := sm (fun i => F i * y ^ i) N
theorem pe_ext {F : Nat → GF} {D N : Nat} (h : ∀ i, D ≤ i → F i = 0) (hN : D ≤ N) (y : GF) : pe F N y = pe F D y :=
  sm_extend hN fun i h1 _ => by rw [h i h1, zero_mul]
theorem pow_back {x y : GF} (h : x * y = 1) {a i : Nat} (hi : i ≤ a) : x ^ a * y ^ i = x ^ (a - i) := by
  have e : x ^ a = x ^ (a - i) * x ^ i := by rw [← pow_add]; congr 1; omega
  rw [e, mul_assoc, ← mul_pow, h, one_pow, mul_one]
theorem cvs_add (F G S : Nat → GF) (a : GF) (j : Nat) : cvs (fun i => F i + a * G i) S j = cvs F S j + a * cvs G S j := by
  unfold cvs
  rw [← sm_mul, ← sm_add]
  exact sm_congr fun i _ => by rw [add_mul, mul_assoc]
theorem cvs_scale (F S : Nat → GF) (a : GF) (j : Nat) : cvs (fun i => F i * a) S j = cvs F S j * a := by
  unfold cvs
  rw [← sm_mul_right]
  exact sm_congr fun i _ => by simp only [mul_assoc, mul_comm]
def shf (F : Nat → GF) (i : Nat) : GF := if i = 0 then 0 else F (i - 1)
theorem cvs_shf (F S : Nat → GF) (j : Nat) : cvs (shf F) S (j + 1) = cvs F S j := by
  unfold cvs
  rw [sm_head]
  show shf F 0 * _ + _ = _
  rw [show shf F 0 = 0 from rfl, zero_mul, zero_add]
  exact sm_congr fun i hi => by
    rw [show shf F (i + 1) = F i by simp [shf], show j + 1 - (i + 1) = j - i by omega]
theorem pe_shf (F : Nat → GF) (N : Nat) (y : GF) : pe (shf F) (N + 1) y = y * pe F N y := by
  unfold pe
  rw [sm_head, show shf F 0 = 0 from rfl, zero_mul, zero_add, ← sm_mul]
  exact sm_congr fun i hi => by
    rw [show shf F (i + 1) = F i by simp [shf], pow_succ]
    simp only [mul_comm, mul_left_comm]
theorem pe_add (F G : Nat → GF) (a : GF) (N : Nat) (y : GF) : pe (fun i => F i + a * G i) N y = pe F N y + a * pe G N y := by
  unfold pe
  rw [← sm_mul, ← sm_add]
  exact sm_congr fun i _ => by rw [add_mul, mul_assoc]
theorem pe_scale (F : Nat → GF) (a : GF) (N : Nat) (y : GF) : pe (fun i => F i * a) N y = pe F N y * a := by
  unfold pe
  rw [← sm_mul_right]
  exact sm_congr fun i _ => by simp only [mul_assoc, mul_comm]

/-- a word that is wrong at some places: which are known, which are not -/
structure Env where
  n : Nat
  c : Nat
  N : Nat
  X : Nat → GF
  y : Nat → GF
  e : Nat → GF
  hs : List Nat
  more : List Nat
  hxy : ∀ p, p < n → X p * y p = 1
  inj : ∀ p q, p < n → q < n → X p = X q → p = q
  hhs : ∀ p, p ∈ hs → p < n
  hmo : ∀ p, p ∈ more → p < n
  sup : ∀ p, p < n → p ∉ hs → p ∉ more → e p = 0
  nz : ∀ p, p ∈ hs ∨ p ∈ more → e p ≠ 0
  nd : (hs ++ more).Nodup
  cnt : 2 * more.length + hs.length ≤ c
  hN : c + 2 ≤ N
namespace Env
variable (V : Env)
def S (i : Nat) : GF := sm (fun p => V.e p * V.X p ^ (i + 1)) V.n
theorem Xne {p : Nat} (hp : p < V.n) : V.X p ≠ 0 := fun h => by
  have := V.hxy p hp
  rw [h, zero_mul] at this
  exact one_ne this.symm
theorem key {F : Nat → GF} {D j : Nat} (h : ∀ i, D < i → F i = 0) (hj : D ≤ j) (hN : D < V.N) : cvs F V.S j = sm (fun p => V.e p * V.X p ^ (j + 1) * pe F V.N (V.y p)) V.n := by
  have e1 : cvs F V.S j = sm (fun i => F i * V.S (j - i)) (D + 1) := sm_extend (by omega) fun i h1 _ => by rw [h i (by omega), zero_mul]
  have e2 : sm (fun i => F i * V.S (j - i)) (D + 1) = sm (fun i => sm (fun p => F i * (V.e p * V.X p ^ (j - i + 1))) V.n) (D + 1) := sm_congr fun i _ => by rw [sm_mul]; rfl
  rw [e1, e2, sm_swap]
  refine sm_congr fun p hp => ?_
  rw [pe_ext (D := D + 1) (fun i hi => h i (by omega)) (by omega)]
  unfold pe
  rw [← sm_mul]
  refine sm_congr fun i hi => ?_
  have := pow_back (V.hxy p hp) (a := j + 1) (i := i) (by omega)
  rw [show j - i + 1 = j + 1 - i by omega, ← this]
  simp only [mul_assoc, mul_comm, mul_left_comm]
/-- a polynomial that the syndromes run by for long enough vanishes at all places -/
theorem kill {L : Nat → GF} {D r : Nat} (h : ∀ i, D < i → L i = 0) (hN : D < V.N) (hz : ∀ j, D ≤ j → j < r → cvs L V.S j = 0) (hv : ∀ p, p ∈ V.hs → pe L V.N (V.y p) = 0) (hr : D + V.more.length ≤ r) :
    ∀ p, p < V.n → V.e p * V.X p ^ D * pe L V.N (V.y p) = 0 := by
  refine vander V.X V.n (fun p hp => V.Xne hp) V.inj V.more _ (fun p hp hm => ?_) (fun j h1 h2 => ?_)
  · by_cases hh : p ∈ V.hs
    · show _ * _ = _
      rw [hv p hh, mul_zero]
    · show _ * _ * _ = _
      rw [V.sup p hp hh hm, zero_mul, zero_mul]
  · have k := V.key h (j := D + j - 1) (by omega) hN
    rw [hz (D + j - 1) (by omega) (by omega)] at k
    rw [k]
    refine sm_congr fun p hp => ?_
    rw [show D + j - 1 + 1 = D + j by omega, pow_add]
    simp only [mul_assoc, mul_comm, mul_left_comm]

/-- what holds ahead of round r -/
structure J (L B : Nat → GF) (long r : Nat) : Prop where
  l0 : L 0 = 1
  dL : ∀ i, long < i → L i = 0
  zL : ∀ j, long ≤ j → j < r → cvs L V.S j = 0
  vL : ∀ p, p ∈ V.hs → pe L V.N (V.y p) = 0
  hl : V.hs.length ≤ long
  up : long ≤ V.hs.length + V.more.length
  dB : ∀ i, r + V.hs.length - long < i → B i = 0
  vB : ∀ p, p ∈ V.hs → pe B V.N (V.y p) = 0
  zB : long = V.hs.length ∨ ((∀ j, r + V.hs.length - long ≤ j → j + 1 < r → cvs B V.S j = 0) ∧ cvs B V.S (r - 1) = 1 ∧ long ≤ r)
variable {V}
theorem J.vS {L B : Nat → GF} {long r : Nat} (h : J V L B long r) (hr : r < V.c) : ∀ p, p ∈ V.hs → pe (shf B) V.N (V.y p) = 0 := fun p hp => by
  have h1 := h.vB p hp
  have hN := V.hN
  have hl := h.hl
  have e1 : pe (shf B) V.N (V.y p) = pe (shf B) (V.N + 1) (V.y p) := (pe_ext (D := V.N) (fun i hi => by
    unfold shf
    rw [if_neg (by omega)]
    exact h.dB _ (by omega)) (by omega) _).symm
  rw [e1, pe_shf, h1, mul_zero]
theorem J.le {L B : Nat → GF} {long r : Nat} (h : J V L B long r) : long ≤ r + V.hs.length := by
  rcases h.zB with e | ⟨_, _, z⟩ <;> omega
theorem J.keep {L B : Nat → GF} {long r : Nat} (h : J V L B long r) (hr : r < V.c) (hhr : V.hs.length ≤ r) (h1 : 1 ≤ r ∨ long = V.hs.length) (hoff : cvs L V.S r = 0) : J V L (shf B) long (r + 1) := by
  refine ⟨h.l0, h.dL, fun j h1 h2 => ?_, h.vL, h.hl, h.up, fun i hi => ?_, h.vS hr, ?_⟩
  · by_cases e : j = r
    · rw [e]; exact hoff
    · exact h.zL j h1 (by omega)
  · unfold shf
    split
    · rfl
    · exact h.dB _ (by have := h.le; omega)
  · rcases h.zB with e | ⟨z1, z2, z3⟩
    · exact .inl e
    · by_cases hr0 : r = 0
      · exact .inl (by have := h.hl; omega)
      refine .inr ⟨fun j h2 h3 => ?_, ?_, by omega⟩
      · obtain ⟨j', rfl⟩ : ∃ j', j = j' + 1 := ⟨j - 1, by omega⟩
        rw [cvs_shf]
        exact z1 j' (by omega) (by omega)
      · obtain ⟨r', rfl⟩ : ∃ r', r = r' + 1 := ⟨r - 1, by omega⟩
        show cvs (shf B) V.S (r' + 1) = 1
        rw [cvs_shf]
        exact z2
/-- the next polynomial -/
theorem J.next {L B : Nat → GF} {long r : Nat} (h : J V L B long r) (hr : r < V.c) (hhr : V.hs.length ≤ r) (off : GF) (hoff : cvs L V.S r = off) (hne : off ≠ 0) :
    (2 * long ≤ r + V.hs.length → J V (fun i => L i + off * shf B i) (fun i => L i * off.inv) (r + 1 + V.hs.length - long) (r + 1)) ∧
    (¬ 2 * long ≤ r + V.hs.length → J V (fun i => L i + off * shf B i) (shf B) long (r + 1)) := by
  have hl := h.hl
  have hN := V.hN
  have hv : ∀ p, p ∈ V.hs → pe (fun i => L i + off * shf B i) V.N (V.y p) = 0 := fun p hp => by
    rw [pe_add, h.vL p hp, h.vS hr p hp, mul_zero, add_zero]
  have hl0 : L 0 + off * shf B 0 = 1 := by rw [show shf B 0 = 0 from rfl, mul_zero, add_zero, h.l0]
  have dS : ∀ i, r + 1 + V.hs.length - long < i → long ≤ r + V.hs.length → shf B i = 0 := fun i hi _ => by
    unfold shf
    rw [if_neg (by omega)]
    exact h.dB _ (by omega)
  have zr : cvs (shf B) V.S r = 1 → cvs (fun i => L i + off * shf B i) V.S r = 0 := fun h1 => by rw [cvs_add, hoff, h1, mul_one, add_self]
  constructor
  · intro hc
    have hbound : r + 1 + V.hs.length - long ≤ V.hs.length + V.more.length := by
      rcases Nat.lt_or_ge r (long + V.more.length) with h2 | h2
      · omega
      · exfalso
        have k := V.kill h.dL (by omega) h.zL h.vL h2
        have k2 := V.key h.dL (j := r) (by omega) (by omega)
        rw [hoff] at k2
        refine hne (k2.trans (sm_zero fun p hp => ?_))
        have := k p hp
        rw [show r + 1 = long + (r + 1 - long) by omega, pow_add]
        have e3 : V.e p * (V.X p ^ long * V.X p ^ (r + 1 - long)) * pe L V.N (V.y p) = V.X p ^ (r + 1 - long) * (V.e p * V.X p ^ long * pe L V.N (V.y p)) := by
          simp only [mul_assoc, mul_comm, mul_left_comm]
        rw [e3, this, mul_zero]
    refine ⟨hl0, fun i hi => ?_, fun j h1 h2 => ?_, hv, by omega, hbound, fun i hi => ?_, fun p hp => ?_, ?_⟩
    · show L i + off * shf B i = 0
      rw [h.dL i (by omega), dS i hi (by omega), mul_zero, add_zero]
    · rcases h.zB with e | ⟨z1, z2, z3⟩
      · omega
      · obtain ⟨r', rfl⟩ : ∃ r', r = r' + 1 := ⟨r - 1, by omega⟩
        by_cases ej : j = r' + 1
        · rw [ej]
          exact zr (by rw [cvs_shf]; exact z2)
        · obtain ⟨j', rfl⟩ : ∃ j', j = j' + 1 := ⟨j - 1, by omega⟩
          rw [cvs_add, cvs_shf, h.zL _ (by omega) (by omega), z1 j' (by omega) (by omega), mul_zero, add_zero]
    · show L i * _ = 0
      rw [h.dL i (by omega), zero_mul]
    · rw [pe_scale, h.vL p hp, zero_mul]
    · refine .inr ⟨fun j h1 h2 => ?_, ?_, by omega⟩
      · rw [cvs_scale, h.zL j (by omega) (by omega), zero_mul]
      · rw [show r + 1 - 1 = r from rfl, cvs_scale, hoff, mul_inv hne]
  · intro hc
    rcases h.zB with e | ⟨z1, z2, z3⟩
    · omega
    · obtain ⟨r', rfl⟩ : ∃ r', r = r' + 1 := ⟨r - 1, by omega⟩
      refine ⟨hl0, fun i hi => ?_, fun j h1 h2 => ?_, hv, h.hl, h.up, fun i hi => dS i (by omega) (by omega), h.vS hr, .inr ⟨fun j h2 h3 => ?_, ?_, by omega⟩⟩
      · show L i + off * shf B i = 0
        rw [h.dL i (by omega), dS i (by omega) (by omega), mul_zero, add_zero]
      · by_cases ej : j = r' + 1
        · rw [ej]
          exact zr (by rw [cvs_shf]; exact z2)
        · obtain ⟨j', rfl⟩ : ∃ j', j = j' + 1 := ⟨j - 1, by omega⟩
          rw [cvs_add, cvs_shf, h.zL _ (by omega) (by omega), z1 j' (by omega) (by omega), mul_zero, add_zero]
      · obtain ⟨j', rfl⟩ : ∃ j', j = j' + 1 := ⟨j - 1, by omega⟩
        rw [cvs_shf]
        exact z1 j' (by omega) (by omega)
      · show cvs (shf B) V.S (r' + 1) = 1
        rw [cvs_shf]
        exact z2
end Env
end Go.Proofs.Ytendgihkjibbaaa
