/- At each wrong place worth tells what was added there. -/
import Derived.Test.YtendgihkjibbaaaForS
namespace Go.Proofs.Ytendgihkjibbaaa
set_option linter.unusedVariables false
open GF

theorem of_ev : ∀ (l : List Nat) (x : Nat), x < 256 → AllB l → GF.of (ev l x) = pe (cf l) l.length (GF.of x)
  | [], x, _, _ => rfl
  | a :: r, x, hx, hl => by
    have ih := of_ev r x hx (allb_tail hl)
    have ha := allb_head hl
    show GF.of (Gf.mul (ev r x) x ^^^ a) = sm _ (r.length + 1)
    rw [of_xor (Gf.mul_lt _ _ (ev_lt (allb_tail hl) x)) ha, of_mul (ev_lt (allb_tail hl) x) hx, ih, sm_head, pow_zero, GF.mul_one, GF.add_comm]
    congr 1
    unfold pe
    rw [← sm_mul_right]
    refine sm_congr fun i hi => ?_
    rw [show cf (a :: r) (i + 1) = cf r i by show GF.of (nth (a :: r) (i + 1)) = _; rw [nth_cons_succ]; rfl, pow_succ, GF.mul_assoc]
theorem of_vv (a : GF) : GF.of a.v = a := ext' (of_v a.h)
theorem cvs_second (F T : Nat → GF) (e X : Nat → GF) (n j : Nat) : cvs F (fun i => sm (fun p => e p * X p ^ (i + 1)) n) j = sm (fun p => e p * X p * cvs F (fun i => X p ^ i) j) n := by
  have e1 : cvs F (fun i => sm (fun p => e p * X p ^ (i + 1)) n) j = sm (fun i => sm (fun p => F i * (e p * X p ^ (j - i + 1))) n) (j + 1) := sm_congr fun i _ => by rw [sm_mul]
  rw [e1, sm_swap]
  refine sm_congr fun p _ => ?_
  unfold cvs
  rw [← sm_mul]
  refine sm_congr fun i _ => ?_
  rw [pow_succ]
  simp only [mul_assoc, mul_comm, mul_left_comm]

namespace Env
variable (V : Env)
theorem yinj {p q : Nat} (hp : p < V.n) (hq : q < V.n) (h : 1 + V.X p * V.y q = 0) : p = q := by
  have h1 := GF.add_eq_zero.1 h
  have h2 := V.hxy q hq
  have hy : V.y q ≠ 0 := fun e => by rw [e, GF.mul_zero] at h2; exact one_ne h2.symm
  refine V.inj p q hp hq (mul_cancel hy ?_)
  rw [GF.mul_comm, ← h1, GF.mul_comm, h2]
/-- a polynomial with as many zeros as it has places is nought -/
theorem roots (F : Nat → GF) (M : Nat) (hF : ∀ i, M ≤ i → F i = 0) (pts : List Nat) (hn : pts.Nodup) (hp : ∀ p, p ∈ pts → p < V.n) (hM : M ≤ pts.length) (hMN : M ≤ V.N) (hz : ∀ p, p ∈ pts → pe F V.N (V.y p) = 0) : ∀ i, F i = 0 := by
  have hlb : AllB ((List.range M).map fun i => (F i).v) := fun x hx => by
    obtain ⟨i, _, rfl⟩ := List.mem_map.1 hx
    exact (F i).h
  have hnth : ∀ i, nth ((List.range M).map fun i => (F i).v) i = (F i).v := fun i => by
    rcases Nat.lt_or_ge i M with h | h
    · simp [nth, h]
    · rw [nth_ge (by simpa using h), hF i h]; rfl
  have hcf : cf ((List.range M).map fun i => (F i).v) = F := funext fun i => by
    show GF.of (nth _ i) = _
    rw [hnth, of_vv]
  have key := Go.Proofs.Ytendgihkjibbaaa.roots (pts.map fun p => (V.y p).v) ((List.range M).map fun i => (F i).v) (fun x hx => by
      obtain ⟨p, _, rfl⟩ := List.mem_map.1 hx
      exact (V.y p).h) hlb (by
      rw [List.nodup_iff_pairwise_ne, List.pairwise_map]
      refine List.Pairwise.imp_of_mem ?_ (List.nodup_iff_pairwise_ne.1 hn)
      intro p q hpm hqm hne e
      refine hne (V.yinj (hp p hpm) (hp q hqm) ?_)
      rw [← show V.y p = V.y q from ext' e, V.hxy p (hp p hpm), GF.add_self]) (fun k hk => by
      rw [List.length_map] at hk
      rw [hnth, hF k (by omega)]; rfl) (fun x hx => by
      obtain ⟨p, hpm, rfl⟩ := List.mem_map.1 hx
      refine (of_eq_zero (ev_lt hlb _)).1 ?_
      rw [of_ev _ _ (V.y p).h hlb, of_vv, hcf, List.length_map, List.length_range, ← pe_ext hF hMN]
      exact hz p hpm)
  intro i
  have h := key i
  rw [hnth] at h
  exact ext' h

/-- the polynomial without one of its zeros -/
def quo (L : Nat → GF) (p : Nat) (i : Nat) : GF := cvs L (fun j => V.X p ^ j) i
theorem quo_zero (L : Nat → GF) (p : Nat) : V.quo L p 0 = L 0 := by
  show sm _ 1 = _
  rw [sm, sm, GF.zero_add]
  exact GF.mul_one _
theorem quo_succ (L : Nat → GF) (p i : Nat) : V.quo L p (i + 1) = V.X p * V.quo L p i + L (i + 1) := by
  show sm (fun k => L k * V.X p ^ (i + 1 - k)) (i + 1 + 1) = _
  rw [sm, Nat.sub_self, pow_zero, GF.mul_one]
  congr 1
  show _ = V.X p * sm (fun k => L k * V.X p ^ (i - k)) (i + 1)
  rw [← sm_mul]
  refine sm_congr fun k hk => ?_
  rw [show i + 1 - k = (i - k) + 1 by omega, pow_succ]
  simp only [mul_comm, mul_left_comm]
theorem quo_eq (L : Nat → GF) (p i : Nat) : L i = V.quo L p i + V.X p * shf (V.quo L p) i := by
  cases i with
  | zero => rw [quo_zero, show shf (V.quo L p) 0 = 0 from rfl, GF.mul_zero, GF.add_zero]
  | succ i => rw [quo_succ, show shf (V.quo L p) (i + 1) = V.quo L p i by simp [shf], GF.add_comm (V.X p * _), GF.add_assoc, GF.add_self, GF.add_zero]
variable {V}
theorem quo_top {L : Nat → GF} {D p : Nat} (hp : p < V.n) (hL : ∀ i, D < i → L i = 0) (hD : D < V.N) (h0 : pe L V.N (V.y p) = 0) (i : Nat) (hi : D ≤ i) : V.quo L p i = 0 := by
  have e1 : V.quo L p i = sm (fun k => L k * V.X p ^ (i - k)) (D + 1) := sm_extend (by omega) fun k h1 _ => by rw [hL k (by omega), GF.zero_mul]
  rw [pe_ext (D := D + 1) (fun i hi => hL i (by omega)) (by omega)] at h0
  rw [e1]
  have e2 : sm (fun k => L k * V.X p ^ (i - k)) (D + 1) = V.X p ^ i * pe L (D + 1) (V.y p) := by
    unfold pe
    rw [← sm_mul]
    refine sm_congr fun k hk => ?_
    rw [← pow_back (V.hxy p hp) (by omega : k ≤ i)]
    exact GF.mul_left_comm _ _ _
  rw [e2, h0, GF.mul_zero]
theorem quo_pe {L : Nat → GF} {D p : Nat} (hp : p < V.n) (hL : ∀ i, D < i → L i = 0) (hD : D < V.N) (h0 : pe L V.N (V.y p) = 0) (z : GF) : pe L V.N z = (1 + V.X p * z) * pe (V.quo L p) V.N z := by
  have e1 : pe L V.N z = pe (fun i => V.quo L p i + V.X p * shf (V.quo L p) i) V.N z := sm_congr fun i _ => by show L i * _ = (V.quo L p i + V.X p * shf (V.quo L p) i) * _; rw [← V.quo_eq L p i]
  have e2 : pe (shf (V.quo L p)) V.N z = pe (shf (V.quo L p)) (V.N + 1) z := (pe_ext (D := V.N) (fun i hi => by
    unfold shf
    rw [if_neg (by omega)]
    exact quo_top hp hL hD h0 _ (by omega)) (by omega) _).symm
  rw [e1, pe_add, e2, pe_shf, GF.add_mul, GF.one_mul, GF.mul_assoc]
/-- the odd powers of a value -/
def odd (L : Nat → GF) (N : Nat) (z : GF) : GF := sm (fun k => if k % 2 = 1 then L k * z ^ k else 0) N
theorem odd_sum (L : Nat → GF) (z : GF) : ∀ N, sm (fun i => pe L (i + 1) z) N = (if N % 2 = 1 then pe L N z else 0) + odd L N z
  | 0 => (GF.add_zero 0).symm
  | N + 1 => by
    have e : pe L (N + 1) z = pe L N z + L N * z ^ N := rfl
    have e2 : odd L (N + 1) z = odd L N z + (if N % 2 = 1 then L N * z ^ N else 0) := rfl
    rw [sm, odd_sum L z N, e2]
    rcases Nat.mod_two_eq_zero_or_one N with h | h
    · rw [if_neg (by omega), if_pos (by omega), if_neg (by omega), GF.zero_add, GF.add_zero, GF.add_comm]
    · rw [if_pos h, if_neg (by omega), if_pos h, GF.zero_add, e]
      have e3 : pe L N z + odd L N z + (pe L N z + L N * z ^ N) = pe L N z + (pe L N z + (odd L N z + L N * z ^ N)) := by simp only [GF.add_assoc, GF.add_comm, GF.add_left_comm]
      rw [e3, GF.add_self_left]
theorem quo_self {L : Nat → GF} {D q : Nat} (hq : q < V.n) (hL : ∀ i, D < i → L i = 0) (hD : D < V.N) (h0 : pe L V.N (V.y q) = 0) : pe (V.quo L q) V.N (V.y q) = odd L V.N (V.y q) := by
  have e1 : pe (V.quo L q) V.N (V.y q) = sm (fun i => pe L (i + 1) (V.y q)) V.N := by
    refine sm_congr fun i hi => ?_
    show sm _ (i + 1) * _ = sm _ (i + 1)
    rw [← sm_mul_right]
    refine sm_congr fun k hk => ?_
    have h1 : V.X q ^ (i - k) * V.y q ^ i = V.y q ^ k := by
      rw [show i = (i - k) + k by omega, pow_add, show i - k + k - k = i - k by omega, ← GF.mul_assoc, ← mul_pow, V.hxy q hq, one_pow, GF.one_mul]
    rw [GF.mul_assoc, h1]
  rw [e1, odd_sum, h0]
  split <;> rw [GF.zero_add]
/-- the value of the syndromes' product at a zero -/
theorem forney {L : Nat → GF} {D q : Nat} (hq : q < V.n) (hL : ∀ i, D < i → L i = 0) (hD : D < V.N) (hDc : D ≤ V.c) (hz : ∀ j, D ≤ j → j < V.c → cvs L V.S j = 0)
    (h0 : ∀ p, p < V.n → V.e p ≠ 0 → pe L V.N (V.y p) = 0) (hq0 : pe L V.N (V.y q) = 0) :
    sm (fun i => cvs L V.S i * V.y q ^ i) V.c = V.e q * (V.X q * odd L V.N (V.y q)) := by
  have e1 : sm (fun i => cvs L V.S i * V.y q ^ i) V.c = sm (fun i => cvs L V.S i * V.y q ^ i) D := sm_extend hDc fun i h1 h2 => by rw [hz i h1 h2, GF.zero_mul]
  have e2 : sm (fun i => cvs L V.S i * V.y q ^ i) D = sm (fun i => sm (fun p => V.e p * V.X p * (V.quo L p i * V.y q ^ i)) V.n) D := sm_congr fun i _ => by
    show cvs L (fun i => sm (fun p => V.e p * V.X p ^ (i + 1)) V.n) i * _ = _
    rw [cvs_second L (fun _ => 0), ← sm_mul_right]
    exact sm_congr fun p _ => by rw [GF.mul_assoc]; rfl
  rw [e1, e2, sm_swap, sm_single hq (fun p hp hne => ?_)]
  · rw [sm_mul, GF.mul_assoc]
    congr 2
    rw [← quo_self hq hL hD hq0]
    exact (pe_ext (F := V.quo L q) (D := D) (fun i hi => quo_top hq hL hD hq0 i hi) (by omega) _).symm
  · rw [sm_mul]
    by_cases he : V.e p = 0
    · rw [he, GF.zero_mul, GF.zero_mul]
    · have hp0 := h0 p hp he
      have h1 := quo_pe hp hL hD hp0 (V.y q)
      rw [hq0] at h1
      have h2 : pe (V.quo L p) V.N (V.y q) = 0 := by
        rcases GF.mul_eq_zero.1 h1.symm with h3 | h3
        · exact absurd (V.yinj hp hq h3) hne
        · exact h3
      rw [pe_ext (F := V.quo L p) (D := D) (fun i hi => quo_top hp hL hD hp0 i hi) (by omega)] at h2
      show _ * pe (V.quo L p) D (V.y q) = 0
      rw [h2, GF.mul_zero]
end Env
end Go.Proofs.Ytendgihkjibbaaa
