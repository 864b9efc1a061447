/- locator's lists as polynomials; its zeros; what is to be added there. -/
import Derived.Test.YtendgihkjibbaaaBerS
import Derived.Test.YtendgihkjibbaaaLocS
import Derived.Test.YtendgihkjibbaaaWorthS
namespace Go.Proofs.Ytendgihkjibbaaa
set_option linter.unusedVariables false
open GF

def cf (l : List Nat) (i : Nat) : GF := GF.of (nth l i)
theorem cf_ge {l : List Nat} {i : Nat} (h : l.length ≤ i) : cf l i = 0 := by
  show GF.of (nth l i) = 0
  rw [nth_ge h]
  rfl
theorem of_offw {l s : List Nat} (hl : AllB l) (hs : AllB s) (r : Nat) : GF.of (offw l s r l.length) = cvs (cf l) (cf s) r := by
  have hlt : ∀ i, (if i ≤ r then Gf.mul (nth l i) (nth s (r - i)) else 0) < 256 := fun i => by
    split
    · exact Gf.mul_lt _ _ (nth_lt hl i)
    · decide
  have e1 : GF.of (offw l s r l.length) = sm (fun i => GF.of (if i ≤ r then Gf.mul (nth l i) (nth s (r - i)) else 0)) l.length := of_xsum hlt _
  have e2 : sm (fun i => GF.of (if i ≤ r then Gf.mul (nth l i) (nth s (r - i)) else 0)) (max l.length (r + 1)) = sm (fun i => GF.of (if i ≤ r then Gf.mul (nth l i) (nth s (r - i)) else 0)) l.length :=
    sm_extend (by omega) fun i h1 _ => by
      split
      · rw [nth_ge h1, Gf.zero_mul _ (nth_lt hs _)]; rfl
      · rfl
  have e3 : sm (fun i => GF.of (if i ≤ r then Gf.mul (nth l i) (nth s (r - i)) else 0)) (max l.length (r + 1)) = sm (fun i => GF.of (if i ≤ r then Gf.mul (nth l i) (nth s (r - i)) else 0)) (r + 1) :=
    sm_extend (by omega) fun i h1 _ => by rw [if_neg (by omega)]; rfl
  rw [e1, ← e2, e3]
  unfold cvs
  refine sm_congr fun i hi => ?_
  rw [if_pos (by omega), of_mul (nth_lt hl i) (nth_lt hs _)]
  rfl
theorem padm_nth (l : List Nat) (m i : Nat) : nth (padm l m) i = nth l i := by
  unfold padm nth
  rw [List.getD_eq_getElem?_getD, List.getD_eq_getElem?_getD, List.getElem?_append]
  split
  · rfl
  · rename_i h
    rw [List.getElem?_eq_none (l := l) (by omega), List.getElem?_replicate]
    split <;> rfl
theorem cf_nextw {l b : List Nat} {off : Nat} (hl : AllB l) (hb : AllB b) (ho : off < 256) (i : Nat) : cf (nextw l b off) i = cf l i + GF.of off * cf b i := by
  show GF.of (nth (nextw l b off) i) = _
  rw [nextw, addTo_nth' _ _ _ _ _ (by rw [padm_len _ _ (by omega)]; omega), if_pos (by omega), padm_nth, of_xor (nth_lt hl i) (Gf.mul_lt _ _ ho), of_mul ho (nth_lt hb _)]
  rfl
theorem cf_cons (b : List Nat) (i : Nat) : cf (0 :: b) i = shf (cf b) i := by
  unfold shf
  cases i with
  | zero => rfl
  | succ i =>
    rw [if_neg (by omega)]
    show GF.of (nth (0 :: b) (i + 1)) = _
    rw [nth_cons_succ]
    rfl
theorem cf_map {l : List Nat} (hl : AllB l) {k : Nat} (hk : k < 256) (i : Nat) : cf (l.map fun c => Gf.mul c k) i = cf l i * GF.of k := by
  show GF.of (nth (l.map fun c => Gf.mul c k) i) = _
  rcases Nat.lt_or_ge i l.length with h | h
  · have e : nth (l.map fun c => Gf.mul c k) i = Gf.mul (nth l i) k := by simp [nth, h]
    rw [e, of_mul (nth_lt hl i) hk]
    rfl
  · rw [nth_ge (by rw [List.length_map]; exact h), cf_ge h, GF.zero_mul]
    rfl
theorem cf_tms {p : List Nat} (hp : AllB p) {k : Nat} (hk : k < 256) (i : Nat) : cf (tms p k) i = cf p i + GF.of k * shf (cf p) i := by
  show GF.of (nth (tms p k) i) = _
  have hps : nth (p ++ [0]) i = nth p i := by
    unfold nth
    rw [List.getD_eq_getElem?_getD, List.getD_eq_getElem?_getD, List.getElem?_append]
    split
    · rfl
    · rename_i h
      rw [List.getElem?_eq_none (l := p) (by omega)]
      rcases Nat.lt_or_ge (i - p.length) 1 with h1 | h1
      · rw [show i - p.length = 0 by omega]; rfl
      · rw [List.getElem?_eq_none (by simpa using h1)]
  rw [tms, addTo_nth' _ _ _ _ _ (by simp; omega), hps]
  unfold shf
  by_cases h : 1 ≤ i
  · rw [if_pos h, if_neg (by omega), of_xor (nth_lt hp i) (Gf.mul_lt _ _ hk), of_mul hk (nth_lt hp _)]
    rfl
  · rw [if_neg h, if_pos (by omega), Nat.xor_zero, GF.mul_zero, GF.add_zero]
    rfl
theorem pe_tms {p : List Nat} (hp : AllB p) {k N : Nat} (hk : k < 256) (hN : p.length + 1 ≤ N) (y : GF) : pe (cf (tms p k)) N y = (1 + GF.of k * y) * pe (cf p) N y := by
  have e1 : pe (cf (tms p k)) N y = pe (fun i => cf p i + GF.of k * shf (cf p) i) N y := sm_congr fun i _ => by rw [cf_tms hp hk]
  have e2 : pe (shf (cf p)) N y = pe (shf (cf p)) (N + 1) y := (pe_ext (D := N) (fun i hi => by
    unfold shf
    rw [if_neg (by omega)]
    exact cf_ge (by omega)) (by omega) _).symm
  rw [e1, pe_add, e2, pe_shf, GF.add_mul, GF.one_mul, GF.mul_assoc]
theorem pe_hlo {N : Nat} (y : GF) : ∀ (ks l : List Nat), AllB ks → AllB l → l.length + ks.length ≤ N → ((∃ k ∈ ks, 1 + GF.of k * y = 0) ∨ pe (cf l) N y = 0) → pe (cf (ks.foldl tms l)) N y = 0
  | [], l, _, _, _, h => by
    rcases h with ⟨k, hk, _⟩ | h
    · simp at hk
    · exact h
  | k :: ks, l, hk, hl, hN, h => by
    have hk256 : k < 256 := hk k List.mem_cons_self
    have hks : AllB ks := fun y hy => hk y (List.mem_cons_of_mem _ hy)
    rw [List.length_cons] at hN
    refine pe_hlo y ks (tms l k) hks (tms_all hl hk256) (by rw [tms_len]; omega) ?_
    rcases h with ⟨k', hk', h0⟩ | h
    · rcases List.mem_cons.1 hk' with e | e
      · exact .inr (by rw [pe_tms hl hk256 (by omega), ← e, h0, GF.zero_mul])
      · exact .inl ⟨k', e, h0⟩
    · exact .inr (by rw [pe_tms hl hk256 (by omega), h, GF.mul_zero])
theorem hlo_zero : ∀ (ks l : List Nat), AllB ks → AllB l → cf l 0 = 1 → cf (ks.foldl tms l) 0 = 1
  | [], l, _, _, h => h
  | k :: ks, l, hk, hl, h => by
    have hk256 : k < 256 := hk k List.mem_cons_self
    refine hlo_zero ks (tms l k) (fun y hy => hk y (List.mem_cons_of_mem _ hy)) (tms_all hl hk256) ?_
    rw [cf_tms hl hk256, show shf (cf l) 0 = 0 from rfl, GF.mul_zero, GF.add_zero, h]

/-- locator keeps what must hold -/
theorem loc_J (V : Env) (s ks : List Nat) (hs : AllB s) (hk : AllB ks) (hkl : ks.length = V.hs.length) (hS : ∀ i, i < V.c → cf s i = V.S i) (hz : ∀ p, p ∈ V.hs → ∃ k ∈ ks, 1 + GF.of k * V.y p = 0) :
    ∀ k, V.hs.length + k ≤ V.c → Env.J V (cf (loc s ks k).1) (cf (loc s ks k).2.1) (loc s ks k).2.2 (V.hs.length + k)
  | 0, _ => by
    have hN := V.hN
    have hcnt := V.cnt
    have hlen := hlo_len ks
    have hv : ∀ p, p ∈ V.hs → pe (cf (hlo ks)) V.N (V.y p) = 0 := fun p hp => pe_hlo _ ks [1] hk (fun x hx => by simp at hx; omega) (by simp; omega) (.inl (hz p hp))
    have hl0 : cf (hlo ks) 0 = 1 := hlo_zero ks [1] hk (fun x hx => by simp at hx; omega) rfl
    show Env.J V (cf (hlo ks)) (cf (hlo ks)) ks.length (V.hs.length + 0)
    rw [hkl] at hlen ⊢
    exact ⟨hl0, fun i hi => cf_ge (by omega), fun j h1 h2 => by omega, hv, Nat.le_refl _, by omega, fun i hi => cf_ge (by omega), hv, .inl rfl⟩
  | k + 1, hkc => by
    have ih := loc_J V s ks hs hk hkl hS hz k (by omega)
    have ok := lok (s := s) hk k
    show Env.J V (cf (lstep s ks.length (ks.length + k) (loc s ks k)).1) (cf (lstep s ks.length (ks.length + k) (loc s ks k)).2.1) (lstep s ks.length (ks.length + k) (loc s ks k)).2.2 (V.hs.length + k + 1)
    rw [hkl]
    generalize loc s ks k = st at *
    obtain ⟨l, b, lg⟩ := st
    obtain ⟨q1, q2, q3, ql, qb, q6⟩ := ok
    simp only at ih ql qb
    have ho := offw_lt (s := s) ql (V.hs.length + k) l.length
    have hoff : GF.of (offw l s (V.hs.length + k) l.length) = cvs (cf l) V.S (V.hs.length + k) := by
      rw [of_offw ql hs]
      exact sm_congr fun i hi => by rw [hS _ (by omega)]
    have ec : cf (0 :: b) = shf (cf b) := funext (cf_cons b)
    unfold lstep
    simp only
    by_cases h0 : offw l s (V.hs.length + k) l.length = 0
    · rw [if_pos h0]
      simp only
      rw [ec]
      refine ih.keep (by omega) (by omega) ?_ ?_
      · by_cases e : V.hs.length + k = 0
        · right
          have := ih.le
          have := ih.hl
          omega
        · left; omega
      · rw [← hoff, h0]; rfl
    · rw [if_neg h0]
      have hne : GF.of (offw l s (V.hs.length + k) l.length) ≠ 0 := fun e => h0 ((of_eq_zero ho).1 e)
      have hnx := ih.next (by omega) (by omega) _ hoff.symm hne
      have en : cf (nextw l (0 :: b) (offw l s (V.hs.length + k) l.length)) = fun i => cf l i + GF.of (offw l s (V.hs.length + k) l.length) * shf (cf b) i := by
        funext i
        rw [cf_nextw ql (cons_all qb) ho, cf_cons]
      by_cases hc : 2 * lg ≤ V.hs.length + k + V.hs.length
      · rw [if_pos hc]
        simp only
        have em : cf (l.map fun c => Gf.mul c (Gf.inv (offw l s (V.hs.length + k) l.length))) = fun i => cf l i * (GF.of (offw l s (V.hs.length + k) l.length)).inv := by
          funext i
          rw [cf_map ql (Gf.inv_lt _ ho), of_inv ho]
        rw [en, em]
        exact hnx.1 hc
      · rw [if_neg hc]
        simp only
        rw [en, ec]
        exact hnx.2 hc
end Go.Proofs.Ytendgihkjibbaaa
