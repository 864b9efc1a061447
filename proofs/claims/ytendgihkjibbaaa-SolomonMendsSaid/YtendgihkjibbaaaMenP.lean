/- Whatever is wrong at few enough places is mended: in plain lists. -/
import Derived.Test.YtendgihkjibbaaaWrtS
import Derived.Test.YtendgihkjibbaaaDecS
namespace Go.Proofs.Ytendgihkjibbaaa
set_option linter.unusedVariables false
open GF

theorem of_rz (x : Nat) (hx : x < 256) : ∀ i, GF.of (rz x i) = (GF.of x) ^ i
  | 0 => rfl
  | i + 1 => by rw [rz, of_mul (rz_lt x i) hx, of_rz x hx i, pow_succ]
theorem of_cin {s l : List Nat} (hs : AllB s) (hl : AllB l) (i : Nat) : GF.of (cin s l i (min l.length (i + 1))) = cvs (cf l) (cf s) i := by
  rw [cin, of_xsum (fun k => Gf.mul_lt _ _ (nth_lt hl k))]
  have e : cvs (cf l) (cf s) i = sm (fun k => cf l k * cf s (i - k)) (min l.length (i + 1)) := sm_extend (by omega) fun k h1 h2 => by rw [cf_ge (by omega), GF.zero_mul]
  rw [e]
  exact sm_congr fun k _ => of_mul (nth_lt hl k) (nth_lt hs _)
theorem of_upw {s l : List Nat} (hs : AllB s) (hl : AllB l) (x n : Nat) (hx : x < 256) : GF.of (upw s l x n) = sm (fun i => cvs (cf l) (cf s) i * (GF.of x) ^ i) n := by
  rw [upw, of_xsum (fun i => Gf.mul_lt _ _ (cin_lt hl _ _))]
  exact sm_congr fun i _ => by rw [of_mul (cin_lt hl _ _) (rz_lt x i), of_cin hs hl, of_rz x hx]
theorem odd_pairs (F : Nat → GF) (z : GF) : ∀ M, Env.odd F (2 * M) z = z * sm (fun j => F (2 * j + 1) * z ^ (2 * j)) M
  | 0 => (GF.mul_zero z).symm
  | M + 1 => by
    have e : Env.odd F (2 * (M + 1)) z = Env.odd F (2 * M) z + (if (2 * M) % 2 = 1 then F (2 * M) * z ^ (2 * M) else 0) + (if (2 * M + 1) % 2 = 1 then F (2 * M + 1) * z ^ (2 * M + 1) else 0) := rfl
    rw [e, odd_pairs F z M, if_neg (by omega), if_pos (by omega), GF.add_zero, sm, GF.mul_add, pow_succ]
    congr 1
    simp only [GF.mul_comm, GF.mul_left_comm]
theorem of_dnw {l : List Nat} (hl : AllB l) (x : Nat) (hx : x < 256) {N : Nat} (hN : l.length ≤ N) : GF.of x * GF.of (dnw l x (l.length / 2)) = Env.odd (cf l) N (GF.of x) := by
  have e : Env.odd (cf l) N (GF.of x) = Env.odd (cf l) (2 * (l.length / 2)) (GF.of x) := sm_extend (by omega) fun k h1 h2 => by
    split
    · rw [cf_ge (by omega), GF.zero_mul]
    · rfl
  rw [e, odd_pairs, dnw, of_xsum (fun j => Gf.mul_lt _ _ (nth_lt hl _))]
  congr 1
  exact sm_congr fun j _ => by rw [of_mul (nth_lt hl _) (rz_lt x _), of_rz x hx]; rfl
theorem synd_nth (ws : List Nat) : ∀ c i, i < c → nth (synd ws c) i = hv (Gf.gp (i + 1)) ws
  | 0, i, h => by omega
  | c + 1, i, h => by
    have hl := synd_len ws c
    rw [synd]
    by_cases e : i = c
    · subst e
      simp [nth, hl]
    · rw [← synd_nth ws c i (by omega)]
      unfold nth
      rw [List.getD_eq_getElem?_getD, List.getD_eq_getElem?_getD, List.getElem?_append_left (by omega)]
theorem lx_xin {n p : Nat} (hn : n ≤ 255) (hp : p < n) : lx n p * GF.of (xin n p) = 1 := by
  rw [lx, xin, of_gp, ← pow_add]
  by_cases h : p + 1 = n
  · rw [show ((p : Int) + 1 - (n : Int)) % 255 = 0 by omega, show n - 1 - p = 0 by omega]
    rfl
  · rw [show n - 1 - p + (((p : Int) + 1 - (n : Int)) % 255).toNat = 255 by omega]
    exact al_255

/-- the places that are wrong, in order -/
def wrong (E : List Nat) (n : Nat) : List Nat := (List.range n).filter fun p => decide (p ∈ E)
theorem wrong_len {E : List Nat} {n : Nat} (hE : E.Nodup) (hl : ∀ p, p ∈ E → p < n) : (wrong E n).length = E.length := by
  refine List.Perm.length_eq ((List.perm_ext_iff_of_nodup (List.nodup_range.filter _) hE).2 fun p => ?_)
  rw [List.mem_filter, List.mem_range]
  simp only [decide_eq_true_eq]
  exact ⟨fun h => h.2, fun h => ⟨hl p h, h⟩⟩
theorem wrong_succ (E : List Nat) (n : Nat) : wrong E (n + 1) = if n ∈ E then wrong E n ++ [n] else wrong E n := by
  unfold wrong
  rw [List.range_succ, List.filter_append]
  by_cases h : n ∈ E
  · rw [if_pos h]; simp [h]
  · rw [if_neg h]; simp [h]
/-- what Decode's loop does, where the zeros and what is to be added are known -/
theorem dk_wrong (s l W C E : List Nat) (hlen : C.length = W.length) (hl : AllB l) (hz : ∀ p, p < W.length → (ev l (xin W.length p) = 0 ↔ p ∈ E)) (hk : ∀ p, p < W.length → p ∈ E → wth s l (xin W.length p) = nth W p ^^^ nth C p)
    (hE : ∀ p, p < W.length → (nth W p ≠ nth C p ↔ p ∈ E)) : ∀ k, k ≤ W.length → (∀ i, nth (dk s l W k).1 i = if i < k then nth C i else nth W i) ∧ (dk s l W k).2.1 = wrong E k ∧ (dk s l W k).2.2 = (wrong E k).length
  | 0, _ => ⟨fun i => by rw [if_neg (by omega)]; rfl, rfl, rfl⟩
  | k + 1, h => by
    obtain ⟨h1, h2, h3⟩ := dk_wrong s l W C E hlen hl hz hk hE k (by omega)
    have hlen := dk_len s l W k
    rw [dk]
    generalize dk s l W k = st at *
    obtain ⟨o, a, z⟩ := st
    simp only at h1 h2 h3 hlen
    have hok : nth o k = nth W k := by rw [h1, if_neg (by omega)]
    unfold dstep
    rw [wrong_succ]
    by_cases hin : k ∈ E
    · have hne := (hE k (by omega)).2 hin
      have hw := hk k (by omega) hin
      have hw0 : ¬ wth s l (xin W.length k) = 0 := by
        rw [hw]
        intro e
        have e2 : nth W k ^^^ (nth W k ^^^ nth C k) = nth W k ^^^ 0 := by rw [e]
        rw [← Nat.xor_assoc, Nat.xor_self, Nat.zero_xor, Nat.xor_zero] at e2
        exact hne e2.symm
      rw [if_pos ((hz k (by omega)).2 hin), if_neg hw0, if_pos hin]
      refine ⟨fun i => ?_, by show a ++ [k] = _; rw [h2], by show z + 1 = _; rw [h3, List.length_append]; rfl⟩
      show nth (o.set k _) i = _
      rw [nth_set _ _ _ _ (by omega)]
      by_cases e : i = k
      · rw [if_pos e, if_pos (by omega), e, hok, hw, ← Nat.xor_assoc, Nat.xor_self, Nat.zero_xor]
      · rw [if_neg e, h1]
        by_cases e2 : i < k
        · rw [if_pos e2, if_pos (by omega)]
        · rw [if_neg e2, if_neg (by omega)]
    · rw [if_neg (fun e => hin ((hz k (by omega)).1 e)), if_neg hin]
      refine ⟨fun i => ?_, h2, h3⟩
      rw [h1]
      by_cases e : i = k
      · have : nth W k = nth C k := by
          rcases Nat.decEq (nth W k) (nth C k) with hh | hh
          · exact absurd ((hE k (by omega)).1 hh) hin
          · exact hh
        rw [if_neg (by omega), if_pos (by omega), e, this]
      · by_cases e2 : i < k
        · rw [if_pos e2, if_pos (by omega)]
        · rw [if_neg e2, if_neg (by omega)]

theorem mends_law (C W : List Nat) (c n : Nat) (hs more : List Nat) (hC : AllB C) (hW : AllB W) (hCl : C.length = n) (hWl : W.length = n) (hn : n ≤ 255) (hc1 : 1 ≤ c) (hcn : c < n) (hnC : nought c C = true)
    (hhs : ∀ p, p ∈ hs → p < n) (hmo : ∀ p, p ∈ more → p < n) (nd : (hs ++ more).Nodup) (cnt : 2 * more.length + hs.length ≤ c) (dif : ∀ p, p < n → (nth W p ≠ nth C p ↔ p ∈ hs ++ more)) :
    ∃ at_, dec W c hs = some (C.take (n - c), at_) ∧ at_.length = hs.length + more.length := by
  have hmem : ∀ p, p ∈ hs ++ more → p < n := fun p hp => by
    rcases List.mem_append.1 hp with h | h
    · exact hhs p h
    · exact hmo p h
  have hE0 : ∀ p, p < n → (GF.of (nth W p) + GF.of (nth C p) = 0 ↔ nth W p = nth C p) := fun p _ => by
    rw [GF.add_eq_zero]
    exact ⟨fun h => of_inj (nth_lt hW p) (nth_lt hC p) h, fun h => by rw [h]⟩
  let V : Env := {
    n := n, c := c, N := c + 2, X := lx n, y := fun p => GF.of (xin n p), e := fun p => GF.of (nth W p) + GF.of (nth C p), hs := hs, more := more
    hxy := fun p hp => lx_xin hn hp
    inj := fun p q hp hq h => lx_inj hn hp hq h
    hhs := hhs
    hmo := hmo
    sup := fun p hp h1 h2 => (hE0 p hp).2 (by
      rcases Nat.decEq (nth W p) (nth C p) with hh | hh
      · rcases List.mem_append.1 ((dif p hp).1 hh) with h | h
        · exact absurd h h1
        · exact absurd h h2
      · exact hh)
    nz := fun p hp e => by
      have hm : p ∈ hs ++ more := List.mem_append.2 hp
      exact (dif p (hmem p hm)).2 hm ((hE0 p (hmem p hm)).1 e)
    nd := nd
    cnt := cnt
    hN := Nat.le_refl _ }
  have hsum : ∀ j, 1 ≤ j → j ≤ c → GF.of (hv (Gf.gp j) W) = sm (fun p => V.e p * V.X p ^ j) n := fun j h1 h2 => by
    have e1 := hv_places W hW j
    have e2 := hv_places C hC j
    rw [(nought_iff C c).1 hnC j h1 h2, of_zero, hCl] at e2
    rw [hWl] at e1
    have e3 : sm (fun p => V.e p * V.X p ^ j) n = sm (fun p => GF.of (nth W p) * lx n p ^ j) n + sm (fun p => GF.of (nth C p) * lx n p ^ j) n := by
      rw [← sm_add]
      exact sm_congr fun p _ => GF.add_mul _ _ _
    rw [e1, e3, ← e2, GF.add_zero]
  by_cases hnW : nought c W = true
  · have hz := vander (lx n) n (fun p _ => lx_ne n p) (fun p q hp hq h => lx_inj hn hp hq h) (hs ++ more) V.e (fun p hp hm => by
        rw [List.mem_append] at hm
        exact V.sup p hp (fun h => hm (.inl h)) (fun h => hm (.inr h))) (fun j h1 h2 => by
        rw [List.length_append] at h2
        have := hsum j h1 (by omega)
        rw [(nought_iff W c).1 hnW j h1 (by omega), of_zero] at this
        exact this.symm)
    have hall : ∀ p, p < n → nth W p = nth C p := fun p hp => (hE0 p hp).1 (hz p hp)
    have hnil : hs ++ more = [] := by
      rcases List.eq_nil_or_concat (hs ++ more) with h | ⟨l, x, h⟩
      · exact h
      · have hx : x ∈ hs ++ more := by rw [h]; simp
        exact absurd (hall x (hmem x hx)) ((dif x (hmem x hx)).2 hx)
    obtain ⟨rfl, rfl⟩ := List.append_eq_nil_iff.1 hnil
    refine ⟨[], ?_, rfl⟩
    unfold dec
    rw [if_pos hnW, hWl, nth_ext (a := W) (b := C) (by omega) (fun i hi => hall i (by omega))]
  · have hsl := synd_len W c
    have hsb := synd_all hW c
    have hpb := pws_all n hs
    have hS : ∀ i, i < V.c → cf (synd W c) i = V.S i := fun i hi => by
      show GF.of (nth (synd W c) i) = _
      rw [synd_nth W c i hi]
      exact hsum (i + 1) (by omega) hi
    have hzz : ∀ p, p ∈ V.hs → ∃ k ∈ pws n hs, 1 + GF.of k * V.y p = 0 := fun p hp => by
      refine ⟨Gf.gp (n - 1 - p), List.mem_map.2 ⟨p, hp, rfl⟩, ?_⟩
      rw [of_gp]
      have := V.hxy p (hhs p hp)
      show 1 + lx n p * V.y p = 0
      rw [show lx n p * V.y p = 1 from this, GF.add_self]
    have hJ := loc_J V (synd W c) (pws n hs) hsb hpb (pws_len n hs) hS hzz (c - hs.length) (by show hs.length + (c - hs.length) ≤ c; omega)
    have hok := lok (s := synd W c) hpb (c - hs.length)
    have hdec : dec W c hs = (let t := loc (synd W c) (pws n hs) (c - hs.length)
      if c + hs.length < 2 * t.2.2 then none
      else
        let r := dk (synd W c) t.1 W n
        if r.2.2 = t.2.2 then (if nought c r.1 = true then some (r.1.take (n - c), r.2.1) else none) else none) := by
      unfold dec
      rw [if_neg hnW, hWl]
    rw [hdec]
    rw [pws_len] at hok
    generalize loc (synd W c) (pws n hs) (c - hs.length) = t at *
    obtain ⟨l, b, lg⟩ := t
    obtain ⟨q1, q2, _, hlb, _, _⟩ := hok
    simp only at q1 q2 hlb hJ ⊢
    rw [show V.hs.length + (c - hs.length) = c by show hs.length + (c - hs.length) = c; omega] at hJ
    have hup : lg ≤ hs.length + more.length := hJ.up
    have hlN : l.length ≤ V.N := by show _ ≤ c + 2; omega
    have hkill := V.kill hJ.dL (by show lg < c + 2; omega) hJ.zL hJ.vL (by show lg + more.length ≤ c; omega)
    have hzero : ∀ p, p < n → V.e p ≠ 0 → pe (cf l) V.N (V.y p) = 0 := fun p hp he => by
      rcases GF.mul_eq_zero.1 (hkill p hp) with h | h
      · rcases GF.mul_eq_zero.1 h with h | h
        · exact absurd h he
        · exact absurd h (pow_ne (V.Xne hp) _)
      · exact h
    have hEz : ∀ p, p ∈ hs ++ more → pe (cf l) V.N (V.y p) = 0 := fun p hp => hzero p (hmem p hp) (V.nz p (List.mem_append.1 hp))
    have hl1 : ¬ (∀ i, cf l i = 0) := fun h => one_ne (hJ.l0.symm.trans (h 0))
    have hlg : lg = hs.length + more.length := by
      rcases Nat.lt_or_ge lg (hs.length + more.length) with h | h
      · exact absurd (V.roots (cf l) (lg + 1) (fun i hi => hJ.dL i (by omega)) (hs ++ more) nd hmem (by rw [List.length_append]; omega) (by show lg + 1 ≤ c + 2; omega) hEz) hl1
      · omega
    have hiff : ∀ p, p < n → (pe (cf l) V.N (V.y p) = 0 ↔ p ∈ hs ++ more) := fun p hp => ⟨fun h => by
      by_cases hm : p ∈ hs ++ more
      · exact hm
      · exact absurd (V.roots (cf l) (lg + 1) (fun i hi => hJ.dL i (by omega)) (p :: (hs ++ more)) (List.nodup_cons.2 ⟨hm, nd⟩) (fun q hq => by
            rcases List.mem_cons.1 hq with e | e
            · rw [e]; exact hp
            · exact hmem q e) (by rw [List.length_cons, List.length_append]; omega) (by show lg + 1 ≤ c + 2; omega) (fun q hq => by
            rcases List.mem_cons.1 hq with e | e
            · rw [e]; exact h
            · exact hEz q e)) hl1, hEz p⟩
    have hev : ∀ p, p < n → (ev l (xin n p) = 0 ↔ p ∈ hs ++ more) := fun p hp => by
      rw [← hiff p hp, ← of_eq_zero (ev_lt hlb _), of_ev l _ (xin_lt n p) hlb, pe_ext (F := cf l) (D := l.length) (fun i hi => cf_ge hi) hlN]
    have hwth : ∀ p, p < n → p ∈ hs ++ more → wth (synd W c) l (xin n p) = nth W p ^^^ nth C p := fun p hp hm => by
      have hx := xin_lt n p
      have hp0 := (hiff p hp).2 hm
      have hdn := of_dnw hlb (xin n p) hx hlN
      have hfo := Env.forney (V := V) hp hJ.dL (by show lg < c + 2; omega) (by show lg ≤ c; omega) hJ.zL hzero hp0
      have hdz : GF.of (dnw l (xin n p) (l.length / 2)) = V.X p * Env.odd (cf l) V.N (V.y p) := by
        rw [← show _ = Env.odd (cf l) V.N (V.y p) from hdn, ← GF.mul_assoc, show V.X p * GF.of (xin n p) = 1 from V.hxy p hp, GF.one_mul]
      have hdl : dnw l (xin n p) (l.length / 2) < 256 := xsum_lt (fun j => Gf.mul_lt _ _ (nth_lt hlb _)) _
      have hdne : GF.of (dnw l (xin n p) (l.length / 2)) ≠ 0 := fun h0 => by
        rw [hdz] at h0
        have h1 : pe (V.quo (cf l) p) V.N (V.y p) = 0 := by
          rw [Env.quo_self (V := V) hp hJ.dL (by show lg < c + 2; omega) hp0]
          rcases GF.mul_eq_zero.1 h0 with h | h
          · exact absurd h (V.Xne hp)
          · exact h
        have h2 := V.roots (V.quo (cf l) p) lg (fun i hi => Env.quo_top hp hJ.dL (by show lg < c + 2; omega) hp0 i hi) (hs ++ more) nd hmem (by rw [List.length_append]; omega) (by show lg ≤ c + 2; omega) (fun q hq => by
          by_cases e : q = p
          · rw [e]; exact h1
          · have h3 := Env.quo_pe (V := V) hp hJ.dL (by show lg < c + 2; omega) hp0 (V.y q)
            rw [hEz q hq] at h3
            rcases GF.mul_eq_zero.1 h3.symm with h4 | h4
            · exact absurd (V.yinj hp (hmem q hq) h4).symm e
            · exact h4) 0
        rw [V.quo_zero, hJ.l0] at h2
        exact one_ne h2
      have hup2 : GF.of (upw (synd W c) l (xin n p) (synd W c).length) = V.e p * GF.of (dnw l (xin n p) (l.length / 2)) := by
        rw [of_upw hsb hlb _ _ hx, hsl, hdz, ← hfo]
        exact sm_congr fun i hi => by
          congr 1
          exact sm_congr fun k hk => by rw [hS _ (by show i - k < c; omega)]
      have hne0 : dnw l (xin n p) (l.length / 2) ≠ 0 := fun e => hdne (by rw [e]; rfl)
      refine of_inj (wth_lt hlb _) (Gf.xor_lt (nth_lt hW p) (nth_lt hC p)) ?_
      unfold wth
      rw [if_neg hne0, of_mul (upw_lt hlb _ _) (Gf.inv_lt _ hdl), of_inv hdl, hup2, GF.mul_assoc, GF.mul_inv hdne, GF.mul_one, of_xor (nth_lt hW p) (nth_lt hC p)]
    have hdk := dk_wrong (synd W c) l W C (hs ++ more) (by omega) hlb (by rw [hWl]; exact hev) (by rw [hWl]; exact hwth) (by rw [hWl]; exact dif) n (by omega)
    have hdl := dk_len (synd W c) l W n
    have hwl := wrong_len nd hmem
    rw [List.length_append] at hwl
    generalize dk (synd W c) l W n = r at *
    obtain ⟨o, a, z⟩ := r
    simp only at hdk hdl ⊢
    obtain ⟨d1, d2, d3⟩ := hdk
    have hoC : o = C := nth_ext (by omega) (fun i hi => by rw [d1, if_pos (by omega)])
    rw [if_neg (by omega), if_pos (by omega), hoC, if_pos hnC]
    exact ⟨a, rfl, by rw [d2]; exact hwl⟩
end Go.Proofs.Ytendgihkjibbaaa
