/- What Decode answers without holes is near the word: in plain lists. -/
import Derived.Test.YtendgihkjibbaaaCodeS
import Derived.Test.YtendgihkjibbaaaDecS
namespace Go.Proofs.Ytendgihkjibbaaa
set_option linter.unusedVariables false

/-- the places below n where two words differ -/
def dif (a b : List Nat) (n : Nat) : List Nat := (List.range n).filter fun i => nth a i != nth b i
theorem dif_succ (a b : List Nat) (n : Nat) : dif a b (n + 1) = if nth a n = nth b n then dif a b n else dif a b n ++ [n] := by
  unfold dif
  rw [List.range_succ, List.filter_append]
  by_cases h : nth a n = nth b n
  · rw [if_pos h]; simp [h]
  · rw [if_neg h]; simp [h]
theorem dif_prefix (a b : List Nat) (n m : Nat) (h : n ≤ m) : dif a b n <+: dif a b m := by
  induction m with
  | zero => rw [show n = 0 by omega]; exact List.prefix_rfl
  | succ m ih =>
    by_cases e : n = m + 1
    · rw [e]; exact List.prefix_rfl
    · refine (ih (by omega)).trans ?_
      rw [dif_succ]
      split
      · exact List.prefix_rfl
      · exact List.prefix_append _ _
/-- where the next place that differs stands -/
theorem dif_at (a b : List Nat) (i m : Nat) (h : i < m) (hd : nth a i ≠ nth b i) : (dif a b i).length < (dif a b m).length ∧ nth (dif a b m) (dif a b i).length = i := by
  have hp := dif_prefix a b (i + 1) m (by omega)
  rw [dif_succ, if_neg hd] at hp
  obtain ⟨r, hr⟩ := hp
  rw [← hr]
  constructor
  · simp
    try omega
  · simp [nth]
theorem dif_self (a : List Nat) (n : Nat) : dif a a n = [] := by
  unfold dif
  rw [List.filter_eq_nil_iff]
  intro i _
  simp

theorem dk_dif (s l ws : List Nat) (hl : AllB l) : ∀ p, p ≤ ws.length → (dk s l ws p).2.1 = dif (dk s l ws p).1 ws p ∧ ∀ i, p ≤ i → nth (dk s l ws p).1 i = nth ws i
  | 0, _ => ⟨rfl, fun i _ => rfl⟩
  | p + 1, hp => by
    obtain ⟨h1, h2⟩ := dk_dif s l ws hl p (by omega)
    have hlen := dk_len s l ws p
    rw [dk]
    generalize dk s l ws p = st at *
    obtain ⟨o, a, z⟩ := st
    simp only at h1 h2 hlen
    have same : a = dif o ws (p + 1) := by rw [dif_succ, if_pos (h2 p (Nat.le_refl _))]; exact h1
    unfold dstep
    split
    · split
      · exact ⟨same, fun i hi => h2 i (by omega)⟩
      · rename_i hk
        have hset : ∀ i, nth (o.set p (nth o p ^^^ wth s l (xin ws.length p))) i = if i = p then nth o p ^^^ wth s l (xin ws.length p) else nth o i := fun i => nth_set _ _ _ _ (by omega)
        refine ⟨?_, fun i hi => ?_⟩
        · show a ++ [p] = dif (o.set p _) ws (p + 1)
          rw [dif_succ, if_neg (by
            rw [hset, if_pos rfl, h2 p (Nat.le_refl _)]
            intro e
            have e2 : nth ws p ^^^ (nth ws p ^^^ wth s l (xin ws.length p)) = nth ws p ^^^ nth ws p := by rw [e]
            rw [← Nat.xor_assoc, Nat.xor_self, Nat.zero_xor] at e2
            exact hk e2), h1]
          congr 1
          unfold dif
          refine List.filter_congr fun i hi => ?_
          rw [hset, if_neg (by have := List.mem_range.1 hi; omega)]
        · show nth (o.set p _) i = _
          rw [hset, if_neg (by omega)]
          exact h2 i (by omega)
    · exact ⟨same, fun i hi => h2 i (by omega)⟩

/-- what is answered is near -/
theorem near_law (ws : List Nat) (c : Nat) (hw : AllB ws) (hc1 : 1 ≤ c) (hcw : c < ws.length) (hwn : ws.length ≤ 255) {r : List Nat × List Nat} (h : dec ws c [] = some r) :
    r.1.length = ws.length - c ∧ AllB r.1 ∧ 2 * r.2.length ≤ c ∧ r.2 = dif (encw r.1 c) ws ws.length := by
  have fit : ∀ o : List Nat, AllB o → o.length = ws.length → nought c o = true → encw (o.take (ws.length - c)) c = o := fun o ho hl hn => by
    have htl : (o.take (ws.length - c)).length = ws.length - c := by rw [List.length_take]; omega
    refine unique (c := c) (n := ws.length) (encw_allb _ _ (ho.take _)) ho (by rw [encw_len _ _ hc1, htl]; omega) hl hwn (by omega) (encw_nought _ _ (ho.take _) hc1) hn ?_
    have := encw_take (o.take (ws.length - c)) c
    rwa [htl] at this
  unfold dec at h
  by_cases hn : nought c ws = true
  · rw [if_pos hn] at h
    cases h
    refine ⟨by rw [List.length_take]; omega, hw.take _, Nat.zero_le _, ?_⟩
    show [] = _
    rw [fit ws hw rfl hn, dif_self]
  · rw [if_neg hn] at h
    simp only at h
    have hok := (lok (s := synd ws c) (pws_all ws.length []) (c - 0)).la
    rw [List.length_nil] at h
    generalize loc (synd ws c) (pws ws.length []) (c - 0) = t at *
    obtain ⟨l, b, lg⟩ := t
    simp only at h hok
    by_cases h1 : c + 0 < 2 * lg
    · rw [if_pos h1] at h; cases h
    · rw [if_neg h1] at h
      have d1 := dk_dif (synd ws c) l ws hok ws.length (Nat.le_refl _)
      have d2 := dk_len (synd ws c) l ws ws.length
      have d3 := dk_all (s := synd ws c) hok hw ws.length
      have d4 := dk_cnt (synd ws c) l ws ws.length
      generalize dk (synd ws c) l ws ws.length = q at *
      obtain ⟨o, a, z⟩ := q
      simp only at h d1 d2 d3 d4
      by_cases h2 : z = lg
      · rw [if_pos h2] at h
        by_cases h3 : nought c o = true
        · rw [if_pos h3] at h
          cases h
          refine ⟨by simp only [List.length_take]; omega, d3.take _, by simp only; omega, ?_⟩
          simp only
          rw [fit o d3 d2 h3]
          exact d1.1
        · rw [if_neg h3] at h; cases h
      · rw [if_neg h2] at h; cases h
end Go.Proofs.Ytendgihkjibbaaa
