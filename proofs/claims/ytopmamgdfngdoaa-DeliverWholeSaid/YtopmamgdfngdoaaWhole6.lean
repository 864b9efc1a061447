/- DeliverWhole, plain: the taker. -/
import Derived.Test.YtopmamgdfngdoaaWhole4
namespace Go.Proofs.Ytopmamgdfngdoaa
set_option linter.unusedVariables false

def cov (s : Sp) (i : Nat) : Prop := if s = (0, 0) then i = 0 else s.1 < i ∧ i ≤ s.2
def mis (t : TS) (i : Nat) : Prop := if i = 0 then t.kn = false else ¬ inH t.hv i
def dl : NT → Nat → Prop
  | .nm, i => i = 0
  | .np x y, i => x < i ∧ i ≤ y
  | _, _ => False
theorem judge_ok {P : Par} {t : TS} (h1 : Ris 0 t.hv) (h2 : ∀ s ∈ t.hv, s.2 ≤ P.F) (h3 : t.st = 0) (h4 : t.tm < P.p) (h5 : t.tr ≤ 100) (gs : Nat) : TI P (judgeT P t).1 ∧ (∀ n ∈ (judgeT P t).2, vU P gs (judgeT P t).1.st n) ∧ (judgeT P t).1.en = t.en ∧ (judgeT P t).1.kn = t.kn ∧ (judgeT P t).1.hv = t.hv ∧ (judgeT P t).1.tr = t.tr ∧ (judgeT P t).1.tm = t.tm ∧ (judgeT P t).2.length ≤ 1 ∧ ((judgeT P t).1.st = 0 → (judgeT P t).2 = []) ∧ ((judgeT P t).1.st = 3 → .nd ∈ (judgeT P t).2) := by
  unfold judgeT
  split
  · rename_i h
    rw [Bool.and_eq_true, Bool.and_eq_true] at h
    refine ⟨⟨.inr rfl, h1, h2, fun _ => ⟨h.1.1, h.1.2, h.2⟩, (fun e => by cases e), h4, h5⟩, fun n hn => ?_, rfl, rfl, rfl, rfl, rfl, Nat.le_refl _, (fun e => by cases e), fun _ => List.mem_singleton.2 rfl⟩
    rw [List.mem_singleton] at hn
    subst hn
    exact rfl
  · rename_i h
    exact ⟨⟨.inl h3, h1, h2, (fun e => by have e' : t.st = 3 := e; omega), fun _ => Bool.eq_false_iff.2 h, h4, h5⟩, (fun n hn => by cases hn), rfl, rfl, rfl, rfl, rfl, Nat.zero_le _, fun _ => rfl, (fun e => by have e' : t.st = 3 := e; omega)⟩
theorem lacks_ok {P : Par} {t : TS} (h1 : Ris 0 t.hv) : ∀ e ∈ lacks P t, vSp P.F e ∧ (∀ i, cov e i → i ≤ P.F ∧ mis t i) ∧ ∃ i, cov e i := by
  intro e he
  unfold lacks at he
  rcases List.mem_append.1 he with h | h
  · split at h
    · cases h
    · rename_i hk
      rw [List.mem_singleton] at h
      subst h
      refine ⟨.inl rfl, fun i hi => ?_, 0, ?_⟩
      · unfold cov at hi
        rw [if_pos rfl] at hi
        subst hi
        refine ⟨Nat.zero_le _, ?_⟩
        unfold mis
        rw [if_pos rfl]
        exact Bool.eq_false_iff.2 hk
      · unfold cov
        rw [if_pos rfl]
  · obtain ⟨k1, k2, k3, k4⟩ := gaps_ok P.F t.hv 0 0 0 rfl h1 (Nat.zero_le _) (fun i hi => h1.lt hi) e h
    have hne : e ≠ (0, 0) := fun e0 => by subst e0; exact absurd k1 (Nat.lt_irrefl 0)
    refine ⟨.inr ⟨k1, k2⟩, fun i hi => ?_, e.2, ?_⟩
    · unfold cov at hi
      rw [if_neg hne] at hi
      refine ⟨by omega, ?_⟩
      unfold mis
      rw [if_neg (by omega)]
      exact k4 i hi.1 hi.2
    · unfold cov
      rw [if_neg hne]
      exact ⟨k1, Nat.le_refl _⟩
theorem lacks_none {P : Par} {t : TS} (h1 : Ris 0 t.hv) (h : lacks P t = []) : t.kn = true ∧ allH P.F t.hv = true := by
  unfold lacks at h
  obtain ⟨h2, h3⟩ := List.append_eq_nil_iff.1 h
  refine ⟨?_, gaps_none P.F t.hv h1 h3⟩
  split at h2
  · assumption
  · cases h2
theorem ask_ok' {P : Par} {t : TS} (h1 : Ris 0 t.hv) (gs ts : Nat) (hg : 1 ≤ gs) : (∀ n ∈ askT P t, vU P gs ts n) ∧ (askT P t).length ≤ 1 := by
  unfold askT
  split
  · exact ⟨(fun n hn => by cases hn), Nat.zero_le _⟩
  · rename_i hl
    refine ⟨fun n hn => ?_, Nat.le_refl _⟩
    rw [List.mem_singleton] at hn
    subst hn
    refine ⟨fun e => ?_, by rw [List.length_take]; omega, fun s hs => (lacks_ok h1 s (List.mem_of_mem_take hs)).1, hg⟩
    rcases List.take_eq_nil_iff.1 e with e | e
    · omega
    · exact hl e
theorem TI.wait {P : Par} {t : TS} {gs : Nat} (h : TI P t) (hp : 0 < P.p) (hg : t.en = true → 1 ≤ gs) (htr : t.st = 0 → t.tr < 100) : TI P (waitT P t).1 ∧ (∀ n ∈ (waitT P t).2, vU P gs t.st n) ∧ (waitT P t).1.st = t.st ∧ (waitT P t).1.en = t.en ∧ (waitT P t).1.kn = t.kn ∧ (waitT P t).1.hv = t.hv ∧ (waitT P t).2.length ≤ 1 ∧ (waitT P t).1.tr ≤ t.tr + 1 ∧ (t.en = false → waitT P t = (t, [])) := by
  have hh := h
  obtain ⟨h1, h2, h3, h4, h5, h6, h7⟩ := h
  have hmod := Nat.mod_lt (t.tm + 1) hp
  unfold waitT
  split
  · rename_i hc
    split
    · rw [if_neg (by have := htr hc.1; omega)]
      obtain ⟨a1, a2⟩ := ask_ok' (P := P) h2 gs t.st (hg hc.2)
      exact ⟨⟨h1, h2, h3, h4, h5, hp, by show t.tr + 1 ≤ 100; have := htr hc.1; omega⟩, a1, rfl, rfl, rfl, rfl, a2, Nat.le_refl _, fun e => by rw [hc.2] at e; cases e⟩
    · exact ⟨⟨h1, h2, h3, h4, h5, hmod, h7⟩, (fun n hn => by cases hn), rfl, rfl, rfl, rfl, Nat.zero_le _, Nat.le_succ _, fun e => by rw [hc.2] at e; cases e⟩
  · rename_i hc
    split
    · rename_i hc2
      have hen := (h4 hc2.1).2.1
      split
      · refine ⟨⟨h1, h2, h3, h4, h5, hp, by show t.tr + 1 ≤ 100; omega⟩, fun n hn => ?_, rfl, rfl, rfl, rfl, Nat.le_refl _, Nat.le_refl _, fun e => by rw [hen] at e; cases e⟩
        rw [List.mem_singleton] at hn
        subst hn
        exact hc2.1
      · exact ⟨⟨h1, h2, h3, h4, h5, hmod, h7⟩, (fun n hn => by cases hn), rfl, rfl, rfl, rfl, Nat.zero_le _, Nat.le_succ _, fun e => by rw [hen] at e; cases e⟩
    · exact ⟨hh, (fun n hn => by cases hn), rfl, rfl, rfl, rfl, Nat.zero_le _, Nat.le_succ _, fun _ => rfl⟩
structure TkR (P : Par) (t : TS) (n : NT) (gs : Nat) : Prop where
  ti : TI P (takeT P t n).1
  up : ∀ k ∈ (takeT P t n).2, vU P gs (takeT P t n).1.st k
  st : t.st = 3 → (takeT P t n).1.st = 3
  en : (takeT P t n).1.en = true → 1 ≤ gs
  len : (takeT P t n).2.length ≤ 3
  tr : (takeT P t n).1.st = 0 → (takeT P t n).1.tr = 0
  mis : ∀ i, i ≤ P.F → (mis (takeT P t n).1 i ↔ mis t i ∧ ¬ dl n i)
  now : (takeT P t n).1.st = 3 → t.st = 0 → .nd ∈ (takeT P t n).2
theorem TI.no_mis {P : Par} {t : TS} (h : TI P t) (h3 : t.st = 3) {i : Nat} (hi : i ≤ P.F) : ¬ Go.Proofs.Ytopmamgdfngdoaa.mis t i := by
  obtain ⟨k1, k2, k3⟩ := h.ov h3
  unfold Go.Proofs.Ytopmamgdfngdoaa.mis
  split
  · rw [k1]; exact fun e => by cases e
  · exact fun e => e (all_in k3 (by omega) hi)
theorem mis_of {t t' : TS} (h1 : t'.kn = t.kn) (h2 : t'.hv = t.hv) (i : Nat) : mis t' i ↔ mis t i := by
  unfold mis
  rw [h1, h2]
theorem TI.take {P : Par} {t : TS} {n : NT} {gs : Nat} (h : TI P t) (hp : 0 < P.p) (hn : vD P gs n) (hg : t.en = true → 1 ≤ gs) : TkR P t n gs := by
  have hh := h
  obtain ⟨h1, h2, h3, h4, h5, h6, h7⟩ := h
  rcases h1 with h0 | h0
  · cases n with
    | nm =>
      obtain ⟨j1, j2, j3, j4, j5, j6, j7, j8, j9, j10⟩ := judge_ok (t := { t with tm := 0, tr := 0, kn := true }) h2 h3 h0 hp (Nat.zero_le _) gs
      have e : takeT P t .nm = judgeT P { t with tm := 0, tr := 0, kn := true } := by unfold takeT; rw [if_pos h0]
      refine ⟨by rw [e]; exact j1, by rw [e]; exact j2, fun h => by omega, fun he => hg (by rw [e, j3] at he; exact he), by rw [e]; omega, fun _ => by rw [e, j6], fun i hi => ?_, fun h _ => by rw [e] at h ⊢; exact j10 h⟩
      rw [e]
      unfold mis dl
      rw [j4, j5]
      by_cases hi0 : i = 0
      · rw [if_pos hi0, if_pos hi0]
        exact ⟨(fun h => by cases h), fun h => absurd hi0 h.2⟩
      · rw [if_neg hi0, if_neg hi0]
        exact ⟨fun h => ⟨h, hi0⟩, fun h => h.1⟩
    | np x y =>
      obtain ⟨n1, n2, n3⟩ := hn
      obtain ⟨j1, j2, j3, j4, j5, j6, j7, j8, j9, j10⟩ := judge_ok (t := { t with tm := 0, tr := 0, hv := layH (x, y) t.hv }) (lay_ris t.hv (x, y) 0 (Nat.zero_le _) n1 h2) (lay_top t.hv (x, y) P.F n2 h3) h0 hp (Nat.zero_le _) gs
      have e : takeT P t (.np x y) = judgeT P { t with tm := 0, tr := 0, hv := layH (x, y) t.hv } := by unfold takeT; rw [if_pos h0]
      refine ⟨by rw [e]; exact j1, by rw [e]; exact j2, fun h => by omega, fun he => hg (by rw [e, j3] at he; exact he), by rw [e]; omega, fun _ => by rw [e, j6], fun i hi => ?_, fun h _ => by rw [e] at h ⊢; exact j10 h⟩
      rw [e]
      unfold mis dl
      rw [j4, j5]
      by_cases hi0 : i = 0
      · rw [if_pos hi0, if_pos hi0]
        exact ⟨fun h => ⟨h, fun k => by have := k.1; omega⟩, fun h => h.1⟩
      · rw [if_neg hi0, if_neg hi0]
        show ¬ inH (layH (x, y) t.hv) i ↔ _
        rw [lay_in t.hv (x, y) i n1 h2.each]
        exact ⟨fun h => ⟨fun k => h (.inr k), fun k => h (.inl k)⟩, fun h k => by
          rcases k with k | k
          · exact h.2 k
          · exact h.1 k⟩
    | ne =>
      have g1 : 1 ≤ gs := hn
      obtain ⟨j1, j2, j3, j4, j5, j6, j7, j8, j9, j10⟩ := judge_ok (t := { t with tm := 0, tr := 0, en := true }) h2 h3 h0 hp (Nat.zero_le _) gs
      have e : takeT P t .ne = ending P { t with tm := 0, tr := 0, en := true } := by unfold takeT; rw [if_pos h0]
      have e1 : (takeT P t .ne).1 = (judgeT P { t with tm := 0, tr := 0, en := true }).1 := by rw [e]; rfl
      have hh2 : Ris 0 (judgeT P { t with tm := 0, tr := 0, en := true }).1.hv := by rw [j5]; exact h2
      obtain ⟨a1, a2⟩ := ask_ok' (P := P) hh2 gs (judgeT P { t with tm := 0, tr := 0, en := true }).1.st g1
      refine ⟨by rw [e1]; exact j1, fun k hk => ?_, fun h => by omega, fun _ => g1, ?_, fun _ => by rw [e1, j6], fun i hi => ?_, fun h _ => ?_⟩
      · rw [e1]
        rw [e] at hk
        unfold ending at hk
        rcases List.mem_cons.1 hk with rfl | hk
        · exact g1
        · rcases List.mem_append.1 hk with hk | hk
          · exact j2 k hk
          · split at hk
            · exact a1 k hk
            · cases hk
      · rw [e]
        unfold ending
        rw [List.length_cons, List.length_append]
        split
        · rename_i hs
          rw [j9 hs]
          simp only [List.length_nil]
          omega
        · simp only [List.length_nil]
          omega
      · rw [e1, mis_of j4 j5]
        exact ⟨fun h => ⟨h, fun k => k⟩, fun h => h.1⟩
      · rw [e1] at h
        rw [e]
        unfold ending
        exact List.mem_cons_of_mem _ (List.mem_append_left _ (j10 h))
    | sd =>
      obtain ⟨j1, j2, j3, j4, j5, j6, j7, j8, j9, j10⟩ := judge_ok (t := { t with tm := 0, tr := 0 }) h2 h3 h0 hp (Nat.zero_le _) gs
      have e : takeT P t .sd = judgeT P { t with tm := 0, tr := 0 } := by unfold takeT; rw [if_pos h0]
      refine ⟨by rw [e]; exact j1, by rw [e]; exact j2, fun h => by omega, fun he => hg (by rw [e, j3] at he; exact he), by rw [e]; omega, fun _ => by rw [e, j6], fun i hi => ?_, fun h _ => by rw [e] at h ⊢; exact j10 h⟩
      rw [e, mis_of j4 j5]
      exact ⟨fun h => ⟨h, fun k => k⟩, fun h => h.1⟩
    | ng l => exact absurd hn id
    | nd => exact absurd hn id
    | se => exact absurd hn id
  · have hen := (h4 h0).2.1
    have hn0 : ¬ t.st = 0 := by omega
    have hmis : ∀ (t' : TS) (n : NT), t'.kn = t.kn → t'.hv = t.hv → ∀ i, i ≤ P.F → (Go.Proofs.Ytopmamgdfngdoaa.mis t' i ↔ Go.Proofs.Ytopmamgdfngdoaa.mis t i ∧ ¬ dl n i) := fun t' n e1 e2 i hi => by
      rw [mis_of e1 e2]
      exact ⟨fun h => absurd h (hh.no_mis h0 hi), fun h => h.1⟩
    cases n with
    | ne =>
      have e : takeT P t .ne = (t, [.se, .nd]) := by unfold takeT; rw [if_neg hn0]
      refine ⟨by rw [e]; exact hh, fun k hk => ?_, fun _ => by rw [e]; exact h0, fun _ => hg hen, by rw [e]; show 2 ≤ 3; omega, fun he => by rw [e] at he; exact absurd he hn0, by rw [e]; exact hmis t _ rfl rfl, fun _ h => absurd h hn0⟩
      rw [e] at hk ⊢
      rcases List.mem_cons.1 hk with rfl | hk
      · exact hg hen
      · rw [List.mem_singleton] at hk
        subst hk
        exact h0
    | sd =>
      have e : takeT P t .sd = ({ t with tm := 0, tr := 100 }, []) := by unfold takeT; rw [if_neg hn0]
      exact ⟨by rw [e]; exact ⟨.inr h0, h2, h3, h4, h5, hp, Nat.le_refl _⟩, (by rw [e]; intro k hk; cases hk), fun _ => by rw [e]; exact h0, fun _ => hg hen, by rw [e]; exact Nat.zero_le _, fun he => by rw [e] at he; exact absurd he hn0, by rw [e]; exact hmis _ _ rfl rfl, fun _ h => absurd h hn0⟩
    | nm =>
      have e : takeT P t .nm = (t, []) := by unfold takeT; rw [if_neg hn0]
      exact ⟨by rw [e]; exact hh, (by rw [e]; intro k hk; cases hk), fun _ => by rw [e]; exact h0, fun _ => hg hen, by rw [e]; exact Nat.zero_le _, fun he => by rw [e] at he; exact absurd he hn0, by rw [e]; exact hmis t _ rfl rfl, fun _ h => absurd h hn0⟩
    | np x y =>
      have e : takeT P t (.np x y) = (t, []) := by unfold takeT; rw [if_neg hn0]
      exact ⟨by rw [e]; exact hh, (by rw [e]; intro k hk; cases hk), fun _ => by rw [e]; exact h0, fun _ => hg hen, by rw [e]; exact Nat.zero_le _, fun he => by rw [e] at he; exact absurd he hn0, by rw [e]; exact hmis t _ rfl rfl, fun _ h => absurd h hn0⟩
    | ng l => exact absurd hn id
    | nd => exact absurd hn id
    | se => exact absurd hn id
end Go.Proofs.Ytopmamgdfngdoaa
/- DeliverWhole, plain: a tick keeps what holds. -/
namespace Go.Proofs.Ytopmamgdfngdoaa
set_option linter.unusedVariables false

theorem comes_mem {α : Type} (pick : Nat → Nat → Nat) (cp ls : Nat → Bool) : ∀ (f i : Nat) (way : List α), (∀ n ∈ (comesL pick cp ls i f way).1, n ∈ way) ∧ (∀ n ∈ (comesL pick cp ls i f way).2, n ∈ way) ∧ (comesL pick cp ls i f way).1.length ≤ f ∧ (comesL pick cp ls i f way).2.length ≤ way.length
  | 0, i, way => ⟨(fun n hn => by cases hn), fun n hn => hn, Nat.zero_le _, Nat.le_refl _⟩
  | f + 1, i, way => by
    unfold comesL
    cases hx : way[pick i way.length]? with
    | none => exact ⟨(fun n hn => by cases hn), fun n hn => hn, Nat.zero_le _, Nat.le_refl _⟩
    | some x =>
      dsimp only
      obtain ⟨h1, h2, h3, h4⟩ := comes_mem pick cp ls f (i + 1) (if cp i = true then way else way.eraseIdx (pick i way.length))
      have hsub : ∀ n ∈ (if cp i = true then way else way.eraseIdx (pick i way.length)), n ∈ way := fun n hn => by
        split at hn
        · exact hn
        · exact List.mem_of_mem_eraseIdx hn
      have hlen : (if cp i = true then way else way.eraseIdx (pick i way.length)).length ≤ way.length := by
        split
        · exact Nat.le_refl _
        · rw [List.length_eraseIdx]; split <;> omega
      refine ⟨fun n hn => ?_, fun n hn => hsub n (h2 n hn), ?_, Nat.le_trans h4 hlen⟩
      · rcases List.mem_append.1 hn with k | k
        · split at k
          · cases k
          · rw [List.mem_singleton] at k
            subst k
            exact List.mem_of_getElem? hx
        · exact hsub n (h1 n k)
      · rw [List.length_append]
        split
        · simp only [List.length_nil]; omega
        · simp only [List.length_cons, List.length_nil]; omega
theorem comes_quiet {α : Type} : ∀ (f i : Nat) (way : List α), comesL (fun _ _ => 0) (fun _ => false) (fun _ => false) i f way = (way.take f, way.drop f)
  | 0, i, way => rfl
  | f + 1, i, [] => rfl
  | f + 1, i, x :: r => by
    unfold comesL
    show ((if (false : Bool) = true then [] else [x]) ++ (comesL (fun _ _ => 0) (fun _ => false) (fun _ => false) (i + 1) f (if (false : Bool) = true then x :: r else (x :: r).eraseIdx 0)).1, (comesL (fun _ _ => 0) (fun _ => false) (fun _ => false) (i + 1) f (if (false : Bool) = true then x :: r else (x :: r).eraseIdx 0)).2) = _
    rw [if_neg (fun h => Bool.noConfusion h), if_neg (fun h => Bool.noConfusion h)]
    show ([x] ++ (comesL (fun _ _ => 0) (fun _ => false) (fun _ => false) (i + 1) f r).1, (comesL (fun _ _ => 0) (fun _ => false) (fun _ => false) (i + 1) f r).2) = _
    rw [comes_quiet f (i + 1) r]
    rfl
structure TksR (P : Par) (t t' : TS) (l o : List NT) (gs : Nat) : Prop where
  ti : TI P t'
  up : ∀ k ∈ o, vU P gs t'.st k
  st : t.st = 3 → t'.st = 3
  en : t'.en = true → 1 ≤ gs
  len : o.length ≤ 3 * l.length
  tr : t'.st = 0 → t'.tr ≤ t.tr
  trn : t'.st = 0 → l ≠ [] → t'.tr = 0
  mis : ∀ i, i ≤ P.F → (mis t' i ↔ mis t i ∧ ∀ n ∈ l, ¬ dl n i)
  now : t'.st = 3 → t.st = 0 → .nd ∈ o
theorem takes_ok {P : Par} (hp : 0 < P.p) (gs : Nat) : ∀ (l : List NT) (t : TS), TI P t → (t.en = true → 1 ≤ gs) → (∀ n ∈ l, vD P gs n) → TksR P t (takesL P t l).1 l (takesL P t l).2 gs
  | [], t, h, hg, _ => ⟨h, (fun k hk => by cases hk), id, hg, Nat.zero_le _, fun _ => Nat.le_refl _, fun _ h => absurd rfl h, fun i hi => ⟨fun h => ⟨h, (fun n hn => by cases hn)⟩, fun h => h.1⟩, fun h1 h2 => by have h1' : t.st = 3 := h1; omega⟩
  | n :: r, t, h, hg, hn => by
    have a := h.take hp (hn n List.mem_cons_self) hg
    have b := takes_ok hp gs r _ a.ti a.en (fun k hk => hn k (List.mem_cons_of_mem _ hk))
    unfold takesL
    refine ⟨b.ti, fun k hk => ?_, fun e => b.st (a.st e), b.en, by rw [List.length_append, List.length_cons]; have := a.len; have := b.len; omega, fun e => ?_, fun e _ => ?_, fun i hi => ?_, fun e0 e1 => ?_⟩
    · rcases List.mem_append.1 hk with k1 | k1
      · exact vU_mono (a.up k k1) (Nat.le_refl _) b.st
      · exact b.up k k1
    · have h1 := b.tr e
      have h2 : (takeT P t n).1.st = 0 := by
        rcases a.ti.st with h | h
        · exact h
        · have := b.st h; have e' : (takesL P (takeT P t n).1 r).1.st = 0 := e; omega
      have := a.tr h2
      show (takesL P (takeT P t n).1 r).1.tr ≤ t.tr
      omega
    · have h1 := b.tr e
      have h2 : (takeT P t n).1.st = 0 := by
        rcases a.ti.st with h | h
        · exact h
        · have := b.st h; have e' : (takesL P (takeT P t n).1 r).1.st = 0 := e; omega
      have := a.tr h2
      show (takesL P (takeT P t n).1 r).1.tr = 0
      omega
    · show Go.Proofs.Ytopmamgdfngdoaa.mis (takesL P (takeT P t n).1 r).1 i ↔ _
      rw [b.mis i hi, a.mis i hi]
      constructor
      · rintro ⟨⟨h1, h2⟩, h3⟩
        refine ⟨h1, fun k hk => ?_⟩
        rcases List.mem_cons.1 hk with rfl | hk
        · exact h2
        · exact h3 k hk
      · rintro ⟨h1, h2⟩
        exact ⟨⟨h1, h2 n List.mem_cons_self⟩, fun k hk => h2 k (List.mem_cons_of_mem _ hk)⟩
    · rcases a.ti.st with h2 | h2
      · exact List.mem_append_right _ (b.now e0 h2)
      · exact List.mem_append_left _ (a.now h2 e1)
structure RpsR (P : Par) (g g' : GS) (l o : List NT) (ts : Nat) : Prop where
  gi : GI P g'
  dn : ∀ k ∈ o, vD P g'.st k
  st : g.st ≤ g'.st
  s3 : g'.st = 3 → g.st = 3 ∨ ts = 3
  tr : g'.tr ≤ g.tr
  len : o.length ≤ l.length
  no : g'.st ≠ 3 → o = []
theorem replies_ok {P : Par} (hp : 0 < P.p) (ts : Nat) : ∀ (l : List NT) (g : GS), GI P g → (∀ n ∈ l, vU P g.st ts n) → RpsR P g (repliesL P g l).1 l (repliesL P g l).2 ts
  | [], g, h, _ => ⟨h, (fun k hk => by cases hk), Nat.le_refl _, fun e => .inl e, Nat.le_refl _, Nat.le_refl _, fun _ => rfl⟩
  | n :: r, g, h, hn => by
    obtain ⟨a1, a2, a3, a4, a5, a6, a7⟩ := h.reply hp (hn n List.mem_cons_self)
    have b := replies_ok hp ts r _ a1 (fun k hk => vU_mono (hn k (List.mem_cons_of_mem _ hk)) a3 id)
    unfold repliesL
    refine ⟨b.gi, fun k hk => ?_, Nat.le_trans a3 b.st, fun e => ?_, Nat.le_trans b.tr a5, by rw [List.length_append, List.length_cons]; have := b.len; omega, fun e => ?_⟩
    · rcases List.mem_append.1 hk with k1 | k1
      · exact vD_mono (a2 k k1) b.st (fun e => by show (repliesL P (replyG P g n).1 r).1.st = 3; have := b.gi.st; have := b.st; omega)
      · exact b.dn k k1
    · rcases b.s3 e with k | k
      · exact a4 k
      · exact .inr k
    · have e' : (repliesL P (replyG P g n).1 r).1.st ≠ 3 := e
      rw [a7 (fun k => by have := b.st; have := b.gi.st; omega), b.no e']
      rfl
structure CI (P : Par) (k : Nat) (c : CS) : Prop where
  g : GI P c.g
  t : TI P c.t
  dn : ∀ n ∈ c.dn, vD P c.g.st n
  up : ∀ n ∈ c.up, vU P c.g.st c.t.st n
  en : c.t.en = true → 1 ≤ c.g.st
  gt : c.g.st = 3 → c.t.st = 3
  gr : c.g.tr ≤ k
  tr : c.t.st = 0 → c.t.tr ≤ k
theorem CI.tick {P : Par} {k : Nat} {c : CS} (h : CI P k c) (hm : 0 < P.m) (hp : 0 < P.p) (hk : k < 100) (w : HW) : CI P (k + 1) (tickD P w c) ∧ (tickD P w c).dn.length ≤ c.dn.length + (P.b + 1) + w.u ∧ (tickD P w c).up.length ≤ c.up.length + 1 + 3 * w.d ∧ c.g.st ≤ (tickD P w c).g.st ∧ (c.t.st = 3 → (tickD P w c).t.st = 3) := by
  obtain ⟨hg, ht, hdn, hup, hen, hgt, hgr, htr⟩ := h
  obtain ⟨a1, a2, a3, a4, a5, a6⟩ := hg.give hm hp (by omega)
  obtain ⟨b1, b2, b3, b4, b5, b6, b7, b8, b9⟩ := ht.wait (gs := c.g.st) hp hen (fun e => by have := htr e; omega)
  have g13 : (giveG P c.g).1.st = 3 → c.g.st = 3 := a4
  obtain ⟨c1, c2, c3, c4⟩ := comes_mem w.pick w.cp w.ls w.d 0 (c.dn ++ (giveG P c.g).2)
  have hv1 : ∀ n ∈ c.dn ++ (giveG P c.g).2, vD P (giveG P c.g).1.st n := fun n hn => by
    rcases List.mem_append.1 hn with k1 | k1
    · exact vD_mono (hdn n k1) a3 (fun e => by have := a1.st; omega)
    · exact a2 n k1
  have d := takes_ok hp (giveG P c.g).1.st (comesL w.pick w.cp w.ls 0 w.d (c.dn ++ (giveG P c.g).2)).1 (waitT P c.t).1 b1 (fun e => by rw [b4] at e; exact Nat.le_trans (hen e) a3) (fun n hn => hv1 n (c1 n hn))
  unfold tickD
  dsimp only
  generalize comesL w.pick w.cp w.ls 0 w.d (c.dn ++ (giveG P c.g).2) = a at *
  generalize takesL P (waitT P c.t).1 a.1 = kk at *
  obtain ⟨e1, e2, e3, e4⟩ := comes_mem w.pick w.cp w.ls w.u 0 (c.up ++ (waitT P c.t).2 ++ kk.2)
  have hv2 : ∀ n ∈ c.up ++ (waitT P c.t).2 ++ kk.2, vU P (giveG P c.g).1.st kk.1.st n := fun n hn => by
    rcases List.mem_append.1 hn with k1 | k1
    · rcases List.mem_append.1 k1 with k2 | k2
      · exact vU_mono (hup n k2) a3 (fun e => d.st (by rw [b3]; exact e))
      · exact vU_mono (b2 n k2) a3 (fun e => d.st (by rw [b3]; exact e))
    · exact d.up n k1
  generalize comesL w.pick w.cp w.ls 0 w.u (c.up ++ (waitT P c.t).2 ++ kk.2) = e at *
  have q := replies_ok hp kk.1.st e.1 (giveG P c.g).1 a1 (fun n hn => hv2 n (e1 n hn))
  generalize repliesL P (giveG P c.g).1 e.1 = qq at *
  refine ⟨⟨q.gi, d.ti, fun n hn => ?_, fun n hn => vU_mono (hv2 n (e2 n hn)) q.st id, fun he => Nat.le_trans (d.en he) q.st, fun h3 => ?_, by show qq.1.tr ≤ k + 1; have := q.tr; omega, fun h0 => ?_⟩, ?_, ?_, Nat.le_trans a3 q.st, fun h3 => d.st (by rw [b3]; exact h3)⟩
  · rcases List.mem_append.1 hn with k1 | k1
    · exact vD_mono (hv1 n (c2 n k1)) q.st (fun e => by show qq.1.st = 3; have := q.gi.st; have := q.st; omega)
    · exact q.dn n k1
  · rcases q.s3 h3 with k1 | k1
    · exact d.st (by rw [b3]; exact hgt (a4 k1))
    · exact k1
  · have h1 := d.tr h0
    have h2 : c.t.st = 0 := by
      rcases ht.st with h | h
      · exact h
      · have := d.st (by rw [b3]; exact h); have h0' : kk.1.st = 0 := h0; omega
    have := htr h2
    show kk.1.tr ≤ k + 1
    omega
  · show (a.2 ++ qq.2).length ≤ _
    rw [List.length_append]
    rw [List.length_append] at c4
    have := q.len
    omega
  · show e.2.length ≤ _
    rw [List.length_append, List.length_append] at e4
    have := d.len
    omega
end Go.Proofs.Ytopmamgdfngdoaa
/- DeliverWhole, plain: how much is still to go. -/
namespace Go.Proofs.Ytopmamgdfngdoaa
set_option linter.unusedVariables false

def cnt : Nat → (Nat → Bool) → Nat
  | 0, f => if f 0 = true then 1 else 0
  | n + 1, f => cnt n f + (if f (n + 1) = true then 1 else 0)
theorem cnt_mono : ∀ (n : Nat) {f g : Nat → Bool}, (∀ i, i ≤ n → f i = true → g i = true) → cnt n f ≤ cnt n g
  | 0, f, g, h => by
    unfold cnt
    have := h 0 (Nat.le_refl _)
    split
    · rw [if_pos (this (by assumption))]; exact Nat.le_refl _
    · exact Nat.zero_le _
  | n + 1, f, g, h => by
    unfold cnt
    have h1 := cnt_mono n (fun i hi => h i (Nat.le_succ_of_le hi))
    have := h (n + 1) (Nat.le_refl _)
    by_cases e : f (n + 1) = true
    · rw [if_pos e, if_pos (this e)]; omega
    · rw [if_neg e]; omega
theorem cnt_lt : ∀ (n : Nat) {f g : Nat → Bool}, (∀ i, i ≤ n → f i = true → g i = true) → (∃ i, i ≤ n ∧ g i = true ∧ f i = false) → cnt n f < cnt n g
  | 0, f, g, h, ⟨i, hi, h1, h2⟩ => by
    obtain rfl : i = 0 := by omega
    unfold cnt
    rw [if_pos h1, if_neg (by rw [h2]; decide)]
    exact Nat.zero_lt_one
  | n + 1, f, g, h, ⟨i, hi, h1, h2⟩ => by
    unfold cnt
    by_cases e : i = n + 1
    · subst e
      have h3 := cnt_mono n (fun i hi => h i (Nat.le_succ_of_le hi))
      rw [if_pos h1, if_neg (by rw [h2]; decide)]
      omega
    · have h3 := cnt_lt n (fun i hi => h i (Nat.le_succ_of_le hi)) ⟨i, by omega, h1, h2⟩
      have := h (n + 1) (Nat.le_refl _)
      by_cases e : f (n + 1) = true
      · rw [if_pos e, if_pos (this e)]; omega
      · rw [if_neg e]; omega
theorem cnt_le : ∀ (n : Nat) (f : Nat → Bool), cnt n f ≤ n + 1
  | 0, f => by unfold cnt; split <;> omega
  | n + 1, f => by
    unfold cnt
    have := cnt_le n f
    split <;> omega
theorem cnt_eq {n : Nat} {f g : Nat → Bool} (h : ∀ i, i ≤ n → (f i = true ↔ g i = true)) : cnt n f = cnt n g := Nat.le_antisymm (cnt_mono n fun i hi => (h i hi).1) (cnt_mono n fun i hi => (h i hi).2)
def covB (s : Sp) (i : Nat) : Bool := if s = (0, 0) then decide (i = 0) else decide (s.1 < i ∧ i ≤ s.2)
theorem covB_iff (s : Sp) (i : Nat) : covB s i = true ↔ cov s i := by
  unfold covB cov
  split
  · exact decide_eq_true_iff
  · exact decide_eq_true_iff
def misB (t : TS) (i : Nat) : Bool := if i = 0 then !t.kn else !(t.hv.any fun s => decide (s.1 < i ∧ i ≤ s.2))
theorem misB_iff (t : TS) (i : Nat) : misB t i = true ↔ mis t i := by
  unfold misB mis
  split
  · cases t.kn <;> simp
  · rw [Bool.not_eq_true', Bool.eq_false_iff]
    unfold inH
    refine not_congr ?_
    rw [List.any_eq_true]
    constructor
    · rintro ⟨x, h1, h2⟩
      exact ⟨x, h1, of_decide_eq_true h2⟩
    · rintro ⟨x, h1, h2⟩
      exact ⟨x, h1, decide_eq_true h2⟩
def slot (F : Nat) (M : Nat → Bool) (e : Sp) : Nat := cnt F (fun i => covB e i || M i)
def phi (F : Nat) (M : Nat → Bool) (ag : List Sp) : Nat := (ag.map (slot F M)).sum + (1000 - ag.length) * cnt F M
theorem slot_ge (F : Nat) (M : Nat → Bool) (e : Sp) : cnt F M ≤ slot F M e := cnt_mono F (fun i _ h => by rw [h, Bool.or_true])
theorem phi_le (F : Nat) (M : Nat → Bool) : ∀ (ag : List Sp), ag.length ≤ 1000 → phi F M ag ≤ 1000 * (F + 1) := by
  intro ag hl
  have h1 : ∀ l : List Sp, (l.map (slot F M)).sum ≤ l.length * (F + 1) := by
    intro l
    induction l with
    | nil => simp
    | cons x r ih =>
      rw [List.map_cons, List.sum_cons, List.length_cons, Nat.succ_mul]
      have := cnt_le F (fun i => covB x i || M i)
      have : slot F M x ≤ F + 1 := this
      omega
  have h2 := h1 ag
  have h3 := Nat.mul_le_mul_left (1000 - ag.length) (cnt_le F M)
  unfold phi
  have h4 : ag.length * (F + 1) + (1000 - ag.length) * (F + 1) = 1000 * (F + 1) := by rw [← Nat.add_mul]; congr 1; omega
  omega
theorem phi_mono {F : Nat} {M M' : Nat → Bool} (h : ∀ i, i ≤ F → M i = true → M' i = true) (ag : List Sp) : phi F M ag ≤ phi F M' ag := by
  have h1 : ∀ l : List Sp, (l.map (slot F M)).sum ≤ (l.map (slot F M')).sum := by
    intro l
    induction l with
    | nil => simp
    | cons x r ih =>
      rw [List.map_cons, List.sum_cons, List.map_cons, List.sum_cons]
      have : slot F M x ≤ slot F M' x := cnt_mono F (fun i hi hh => by
        rw [Bool.or_eq_true] at hh ⊢
        rcases hh with hh | hh
        · exact .inl hh
        · exact .inr (h i hi hh))
      omega
  have h2 := Nat.mul_le_mul_left (1000 - ag.length) (cnt_mono F h)
  have h3 := h1 ag
  unfold phi
  omega
theorem phi_pop {F : Nat} {M : Nat → Bool} {s : Sp} {r : List Sp} (hl : r.length + 1 ≤ 1000) : phi F M (s :: r) + cnt F M = phi F M r + slot F M s := by
  unfold phi
  rw [List.map_cons, List.sum_cons, List.length_cons]
  have h4 : (1000 - r.length) * cnt F M = (1000 - (r.length + 1)) * cnt F M + cnt F M := by rw [← Nat.succ_mul]; congr 1; omega
  omega
theorem phi_head {F : Nat} {M : Nat → Bool} {s s' : Sp} {r : List Sp} : phi F M (s' :: r) + slot F M s = phi F M (s :: r) + slot F M s' := by
  unfold phi
  rw [List.map_cons, List.sum_cons, List.map_cons, List.sum_cons, List.length_cons, List.length_cons]
  omega
theorem phi_app {F : Nat} {M : Nat → Bool} {s : Sp} {ag : List Sp} (hl : ag.length < 1000) (hs : ∀ i, i ≤ F → covB s i = true → M i = true) : phi F M (ag ++ [s]) = phi F M ag := by
  have h1 : slot F M s = cnt F M := cnt_eq (fun i hi => by
    rw [Bool.or_eq_true]
    exact ⟨fun h => h.elim (hs i hi) id, .inr⟩)
  unfold phi
  rw [List.map_append, List.sum_append, List.length_append]
  simp only [List.map_cons, List.map_nil, List.sum_cons, List.sum_nil, List.length_cons, List.length_nil]
  rw [h1]
  have h4 : (1000 - ag.length) * cnt F M = (1000 - (ag.length + (0 + 1))) * cnt F M + cnt F M := by rw [← Nat.succ_mul]; congr 1; omega
  omega
/-- something in a queue is of use -/
def use (F : Nat) (M : Nat → Bool) (ag : List Sp) : Prop := ∃ e ∈ ag, ∃ i, i ≤ F ∧ cov e i ∧ M i = true
structure SrvR (F : Nat) (M : Nat → Bool) (ag ag' : List Sp) (o : List NT) : Prop where
  le : phi F M ag' ≤ phi F M ag
  lt : (∃ n ∈ o, ∃ i, i ≤ F ∧ dl n i ∧ M i = false) → phi F M ag' < phi F M ag
  us : use F M ag → (∀ n ∈ o, ∀ i, i ≤ F → dl n i → M i = false) → use F M ag'
  ne : ∀ n ∈ o, ∃ i, i ≤ F ∧ dl n i
theorem serve1 {P : Par} {g : GS} {s : Sp} {r : List Sp} (hm : 0 < P.m) (hs : vSp P.F s) (hl : r.length + 1 ≤ 1000) (M : Nat → Bool) : SrvR P.F M (s :: r) (againG P g s r).1.ag [(againG P g s r).2] := by
  have hpop : ∀ (n : NT), (∀ i, i ≤ P.F → dl n i → covB s i = true) → (∃ i, i ≤ P.F ∧ dl n i) → (∀ i, i ≤ P.F → cov s i → dl n i) → SrvR P.F M (s :: r) r [n] := fun n h1 h2 h3 => by
    have hp := phi_pop (F := P.F) (M := M) (s := s) hl
    have hge := slot_ge P.F M s
    refine ⟨by omega, fun ⟨k, hk, i, hi, hd, hM⟩ => ?_, fun ⟨e, he, i, hi, hc, hM⟩ hno => ?_, fun k hk => ?_⟩
    · rw [List.mem_singleton] at hk
      subst hk
      have : cnt P.F M < slot P.F M s := cnt_lt P.F (fun i _ h => by rw [h, Bool.or_true]) ⟨i, hi, by rw [h1 i hi hd]; rfl, hM⟩
      omega
    · rcases List.mem_cons.1 he with rfl | he
      · have := hno n (List.mem_singleton.2 rfl) i hi (h3 i hi hc)
        rw [hM] at this
        cases this
      · exact ⟨e, he, i, hi, hc, hM⟩
    · rw [List.mem_singleton] at hk
      subst hk
      exact h2
  unfold againG
  by_cases e1 : s = (0, 0)
  · rw [if_pos e1]
    exact hpop .nm (fun i _ h => by rw [covB_iff]; unfold cov; rw [if_pos e1]; exact h) ⟨0, Nat.zero_le _, rfl⟩ (fun i _ h => by unfold cov at h; rw [if_pos e1] at h; exact h)
  · rw [if_neg e1]
    rcases hs with hs | ⟨hs1, hs2⟩
    · exact absurd hs e1
    · by_cases e2 : min s.2 (s.1 + P.m) = s.2
      · rw [if_pos e2]
        rw [e2]
        exact hpop (.np s.1 s.2) (fun i _ h => by rw [covB_iff]; unfold cov; rw [if_neg e1]; exact h) ⟨s.2, hs2, hs1, Nat.le_refl _⟩ (fun i _ h => by unfold cov at h; rw [if_neg e1] at h; exact h)
      · rw [if_neg e2]
        obtain ⟨to, hto⟩ : ∃ to, to = min s.2 (s.1 + P.m) := ⟨_, rfl⟩
        rw [← hto]
        have h1 : s.1 < to ∧ to < s.2 := by omega
        have hne : ((to, s.2) : Sp) ≠ (0, 0) := fun e => by injection e; omega
        have hh := phi_head (F := P.F) (M := M) (s := s) (s' := (to, s.2)) (r := r)
        have hle : slot P.F M (to, s.2) ≤ slot P.F M s := cnt_mono P.F (fun i hi h => by
          rw [Bool.or_eq_true] at h ⊢
          rcases h with h | h
          · left
            rw [covB_iff] at h ⊢
            unfold cov at h ⊢
            rw [if_neg hne] at h
            rw [if_neg e1]
            have h' : to < i ∧ i ≤ s.2 := h
            omega
          · exact .inr h)
        refine ⟨by show phi P.F M ((to, s.2) :: r) ≤ _; omega, fun ⟨k, hk, i, hi, hd, hM⟩ => ?_, fun ⟨e, he, i, hi, hc, hM⟩ hno => ?_, fun k hk => ?_⟩
        · rw [List.mem_singleton] at hk
          subst hk
          have hd' : s.1 < i ∧ i ≤ to := hd
          have : slot P.F M (to, s.2) < slot P.F M s := cnt_lt P.F (fun i hi h => by
            rw [Bool.or_eq_true] at h ⊢
            rcases h with h | h
            · left
              rw [covB_iff] at h ⊢
              unfold cov at h ⊢
              rw [if_neg hne] at h
              rw [if_neg e1]
              have h' : to < i ∧ i ≤ s.2 := h
              omega
            · exact .inr h) ⟨i, hi, by
              rw [Bool.or_eq_true]
              left
              rw [covB_iff]
              unfold cov
              rw [if_neg e1]
              omega, by
              rw [hM, Bool.or_false, Bool.eq_false_iff]
              intro h
              rw [covB_iff] at h
              unfold cov at h
              rw [if_neg hne] at h
              have h' : to < i ∧ i ≤ s.2 := h
              omega⟩
          show phi P.F M ((to, s.2) :: r) < _
          omega
        · rcases List.mem_cons.1 he with rfl | he
          · unfold cov at hc
            rw [if_neg e1] at hc
            refine ⟨(to, e.2), List.mem_cons_self, i, hi, ?_, hM⟩
            unfold cov
            rw [if_neg hne]
            show to < i ∧ i ≤ e.2
            refine ⟨?_, hc.2⟩
            rcases Nat.lt_or_ge to i with h | h
            · exact h
            · have := hno _ (List.mem_singleton.2 rfl) i hi ⟨hc.1, h⟩
              rw [hM] at this
              cases this
          · exact ⟨e, List.mem_cons_of_mem _ he, i, hi, hc, hM⟩
        · rw [List.mem_singleton] at hk
          subst hk
          exact ⟨to, by omega, h1.1, Nat.le_refl _⟩
theorem SrvR.trans {F : Nat} {M : Nat → Bool} {a b c : List Sp} {o o' : List NT} (h : SrvR F M a b o) (k : SrvR F M b c o') : SrvR F M a c (o ++ o') := by
  refine ⟨Nat.le_trans k.le h.le, fun ⟨n, hn, hi⟩ => ?_, fun hu hno => k.us (h.us hu (fun n hn => hno n (List.mem_append_left _ hn))) (fun n hn => hno n (List.mem_append_right _ hn)), fun n hn => ?_⟩
  · rcases List.mem_append.1 hn with h1 | h1
    · exact Nat.lt_of_le_of_lt k.le (h.lt ⟨n, h1, hi⟩)
    · exact Nat.lt_of_lt_of_le (k.lt ⟨n, h1, hi⟩) h.le
  · rcases List.mem_append.1 hn with h1 | h1
    · exact h.ne n h1
    · exact k.ne n h1
theorem SrvR.refl (F : Nat) (M : Nat → Bool) (a : List Sp) : SrvR F M a a [] := ⟨Nat.le_refl _, (fun ⟨n, hn, _⟩ => by cases hn), fun h _ => h, (fun n hn => by cases hn)⟩
/-- what goes once more, in a tick -/
theorem serve {P : Par} (hm : 0 < P.m) (M : Nat → Bool) : ∀ (f : Nat) (g : GS), g.st ≠ 0 → g.fi = false → GI P g → SrvR P.F M g.ag (loopG P f g).1.ag (loopG P f g).2 ∧ (g.ag = [] → loopG P f g = (g, [])) ∧ (g.ag ≠ [] → 0 < f → (loopG P f g).2 ≠ []) ∧ (loopG P f g).1.tm = g.tm ∧ (loopG P f g).1.tr = g.tr ∧ (loopG P f g).1.st = g.st
  | 0, g, _, _, _ => ⟨SrvR.refl _ _ _, fun _ => rfl, fun _ h => absurd h (Nat.lt_irrefl 0), rfl, rfl, rfl⟩
  | f + 1, g, h0, hf, hg => by
    cases ha : g.ag with
    | nil =>
      have e : nextG P g = ⟨g, [], false⟩ := by
        unfold nextG
        rw [if_neg (by rw [hf]; decide), ha]
        dsimp only
        rw [if_pos h0]
      have e2 : loopG P (f + 1) g = (g, []) := by unfold loopG; rw [e]; rfl
      rw [e2, ha]
      exact ⟨SrvR.refl _ _ _, fun _ => rfl, fun h => absurd rfl h, rfl, rfl, rfl⟩
    | cons s r =>
      have e : nextG P g = ⟨(againG P g s r).1, [(againG P g s r).2], true⟩ := by
        unfold nextG
        rw [if_neg (by rw [hf]; decide), ha]
      have e2 : loopG P (f + 1) g = ((loopG P f (againG P g s r).1).1, [(againG P g s r).2] ++ (loopG P f (againG P g s r).1).2) := by
        conv => lhs; unfold loopG
        rw [e]
        rfl
      obtain ⟨k1, k2, k3, k4, k5, k6, k7⟩ := hg.again ha hm
      obtain ⟨b1, b2, b3, b4, b5, b6⟩ := serve hm M f (againG P g s r).1 (by rw [k3]; exact h0) (by rw [k4]; exact hf) k1
      rw [e2]
      have hl := hg.len
      rw [ha] at hl
      refine ⟨(serve1 hm (hg.sp s (by rw [ha]; exact List.mem_cons_self)) hl M).trans b1, fun h => (by cases h), fun _ _ h => (by cases h), b4.trans k6, b5.trans k7, b6.trans k3⟩
end Go.Proofs.Ytopmamgdfngdoaa
/- DeliverWhole, plain: what is asked for is of use. -/
namespace Go.Proofs.Ytopmamgdfngdoaa
set_option linter.unusedVariables false

def Good (F : Nat) (M : Nat → Bool) : NT → Prop
  | .ng l => l ≠ [] ∧ ∀ e ∈ l, vSp F e ∧ (∀ i, cov e i → i ≤ F ∧ M i = true) ∧ ∃ i, cov e i
  | _ => True
theorem Good.mono {F : Nat} {M M' : Nat → Bool} (h : ∀ i, i ≤ F → M i = true → M' i = true) {n : NT} (hg : Good F M n) : Good F M' n := by
  cases n with
  | ng l => exact ⟨hg.1, fun e he => ⟨(hg.2 e he).1, fun i hi => ⟨((hg.2 e he).2.1 i hi).1, h i ((hg.2 e he).2.1 i hi).1 ((hg.2 e he).2.1 i hi).2⟩, (hg.2 e he).2.2⟩⟩
  | nm => trivial
  | np x y => trivial
  | ne => trivial
  | nd => trivial
  | se => trivial
  | sd => trivial
theorem ask_good {P : Par} {t : TS} (h1 : Ris 0 t.hv) : (∀ n ∈ askT P t, Good P.F (misB t) n) ∧ ((t.kn && allH P.F t.hv) = false → ∃ l, .ng l ∈ askT P t) := by
  unfold askT
  split
  · rename_i h
    refine ⟨(fun n hn => by cases hn), fun hk => ?_⟩
    obtain ⟨k1, k2⟩ := lacks_none h1 h
    rw [k1, k2] at hk
    cases hk
  · rename_i h
    refine ⟨fun n hn => ?_, fun _ => ⟨_, List.mem_singleton.2 rfl⟩⟩
    rw [List.mem_singleton] at hn
    subst hn
    refine ⟨fun e => ?_, fun e he => ?_⟩
    · rcases List.take_eq_nil_iff.1 e with e | e
      · omega
      · exact h e
    · obtain ⟨k1, k2, k3⟩ := lacks_ok (P := P) h1 e (List.mem_of_mem_take he)
      exact ⟨k1, fun i hi => ⟨(k2 i hi).1, (misB_iff t i).2 (k2 i hi).2⟩, k3⟩
theorem wait_good {P : Par} {t : TS} (h : TI P t) : ∀ n ∈ (waitT P t).2, Good P.F (misB t) n := by
  obtain ⟨h1, _⟩ := ask_good (P := P) h.ris
  unfold waitT
  intro n hn
  split at hn
  · split at hn
    · split at hn
      · cases hn
      · exact h1 n hn
    · cases hn
  · split at hn
    · split at hn
      · rw [List.mem_singleton] at hn
        subst hn
        trivial
      · cases hn
    · cases hn
theorem take_good {P : Par} {t : TS} {n : NT} {gs : Nat} (h : TI P t) (hp : 0 < P.p) (hn : vD P gs n) (hg : t.en = true → 1 ≤ gs) : ∀ k ∈ (takeT P t n).2, Good P.F (misB t) k := by
  intro k hk
  have hj : ∀ (t' : TS), ∀ k ∈ (judgeT P t').2, Good P.F (misB t) k := fun t' k hk => by
    unfold judgeT at hk
    split at hk
    · rw [List.mem_singleton] at hk
      subst hk
      trivial
    · cases hk
  unfold takeT at hk
  split at hk
  · rename_i h0
    cases n with
    | nm => exact hj _ k hk
    | np x y => exact hj _ k hk
    | sd => exact hj _ k hk
    | ne =>
      obtain ⟨j1, j2, j3, j4, j5, j6, j7, j8, j9, j10⟩ := judge_ok (P := P) (t := { t with tm := 0, tr := 0, en := true }) h.ris h.top h0 hp (Nat.zero_le _) gs
      dsimp only at hk
      unfold ending at hk
      rcases List.mem_cons.1 hk with rfl | hk
      · trivial
      · rcases List.mem_append.1 hk with hk | hk
        · exact hj _ k hk
        · split at hk
          · have h2 : Ris 0 (judgeT P { t with tm := 0, tr := 0, en := true }).1.hv := by rw [j5]; exact h.ris
            refine ((ask_good (P := P) h2).1 k hk).mono (fun i hi hm => ?_)
            rw [misB_iff, mis_of j4 j5] at hm
            exact (misB_iff t i).2 hm
          · cases hk
    | ng l => exact absurd hn id
    | nd => exact absurd hn id
    | se => exact absurd hn id
  · cases n with
    | ne =>
      rcases List.mem_cons.1 hk with rfl | hk
      · trivial
      · rw [List.mem_singleton] at hk
        subst hk
        trivial
    | sd => cases hk
    | nm => cases hk
    | np x y => cases hk
    | ng l => cases hk
    | nd => cases hk
    | se => cases hk
theorem takes_good {P : Par} (hp : 0 < P.p) (gs : Nat) (M : Nat → Bool) : ∀ (l : List NT) (t : TS), TI P t → (t.en = true → 1 ≤ gs) → (∀ n ∈ l, vD P gs n) → (∀ i, i ≤ P.F → misB t i = true → M i = true) → ∀ k ∈ (takesL P t l).2, Good P.F M k
  | [], t, _, _, _, _, k, hk => by cases hk
  | n :: r, t, h, hg, hn, hM, k, hk => by
    have a := h.take hp (hn n List.mem_cons_self) hg
    unfold takesL at hk
    rcases List.mem_append.1 hk with k1 | k1
    · exact (take_good h hp (hn n List.mem_cons_self) hg k k1).mono hM
    · exact takes_good hp gs M r _ a.ti a.en (fun k hk => hn k (List.mem_cons_of_mem _ hk)) (fun i hi hm => hM i hi (by rw [misB_iff, a.mis i hi] at hm; exact (misB_iff t i).2 hm.1)) k k1
theorem asked_phi {F : Nat} {M : Nat → Bool} : ∀ (l ag : List Sp), (∀ e ∈ l, vSp F e ∧ (∀ i, cov e i → i ≤ F ∧ M i = true) ∧ ∃ i, cov e i) → phi F M (askedG F ag l) = phi F M ag ∧ (use F M ag → use F M (askedG F ag l)) ∧ (ag.length < 1000 → l ≠ [] → use F M (askedG F ag l))
  | [], ag, _ => ⟨rfl, id, fun _ h => absurd rfl h⟩
  | s :: r, ag, h => by
    obtain ⟨h1, h2, h3⟩ := h s List.mem_cons_self
    have hs : ((s.1, min s.2 F) : Sp) = s := by
      rcases h1 with rfl | ⟨_, h1⟩
      · show ((0 : Nat), min 0 F) = (0, 0)
        rw [Nat.zero_min]
      · rw [Nat.min_eq_left h1]
    have hc2 : s = (0, 0) ∨ s.1 < min s.2 F := by
      rcases h1 with h1 | ⟨h0, h1⟩
      · exact .inl h1
      · right; omega
    have hr := fun e he => h e (List.mem_cons_of_mem _ he)
    unfold askedG
    by_cases hl : ag.length < 1000
    · rw [if_pos ⟨hl, hc2⟩, hs]
      obtain ⟨k1, k2, k3⟩ := asked_phi r (ag ++ [s]) hr
      have hu : use F M (ag ++ [s]) := by
        obtain ⟨i, hi⟩ := h3
        exact ⟨s, List.mem_append_right _ (List.mem_singleton.2 rfl), i, (h2 i hi).1, hi, (h2 i hi).2⟩
      exact ⟨k1.trans (phi_app hl (fun i hi hc => (h2 i ((covB_iff s i).1 hc)).2)), fun _ => k2 hu, fun _ _ => k2 hu⟩
    · rw [if_neg (fun h => hl h.1)]
      obtain ⟨k1, k2, k3⟩ := asked_phi r ag hr
      exact ⟨k1, k2, fun h => absurd h hl⟩
structure RphR (F : Nat) (M : Nat → Bool) (g g' : GS) (l : List NT) : Prop where
  ph : phi F M g'.ag = phi F M g.ag
  us : use F M g.ag → use F M g'.ag
  no : l = [] → g' = g
  z : l ≠ [] → g'.tr = 0 ∧ g'.tm = 0
  nu : (∃ k, .ng k ∈ l) → g.ag.length < 1000 → use F M g'.ag
  nd : .nd ∉ l
theorem replies_phi {P : Par} (hp : 0 < P.p) (M : Nat → Bool) (ts : Nat) : ∀ (l : List NT) (g : GS), GI P g → (∀ n ∈ l, vU P g.st ts n) → (∀ n ∈ l, Good P.F M n) → (repliesL P g l).1.st = 3 ∨ RphR P.F M g (repliesL P g l).1 l
  | [], g, h, _, _ => .inr ⟨rfl, id, fun _ => rfl, fun h => absurd rfl h, (fun ⟨k, hk⟩ => by cases hk), fun h => by cases h⟩
  | n :: r, g, h, hn, hG => by
    obtain ⟨a1, a2, a3, a4, a5, a6, a7⟩ := h.reply hp (hn n List.mem_cons_self)
    have hr := fun k (hk : k ∈ r) => vU_mono (hn k (List.mem_cons_of_mem _ hk)) a3 id
    have b := replies_ok hp ts r _ a1 hr
    have ih := replies_phi hp M ts r _ a1 hr (fun k hk => hG k (List.mem_cons_of_mem _ hk))
    have e : repliesL P g (n :: r) = ((repliesL P (replyG P g n).1 r).1, (replyG P g n).2 ++ (repliesL P (replyG P g n).1 r).2) := by
      conv => lhs; unfold repliesL
    by_cases h3 : (replyG P g n).1.st = 3
    · left
      rw [e]
      show (repliesL P (replyG P g n).1 r).1.st = 3
      have := b.st
      have := b.gi.st
      omega
    · rcases ih with ih | ih
      · left; rw [e]; exact ih
      · right
        rw [e]
        have hst : g.st ≠ 3 := fun k => h3 (by have := a1.st; omega)
        have hn0 := hn n List.mem_cons_self
        have hG0 := hG n List.mem_cons_self
        -- the first note
        have one : phi P.F M (replyG P g n).1.ag = phi P.F M g.ag ∧ (use P.F M g.ag → use P.F M (replyG P g n).1.ag) ∧ ((replyG P g n).1.tr = 0 ∧ (replyG P g n).1.tm = 0) ∧ ((∃ k, n = .ng k) → g.ag.length < 1000 → use P.F M (replyG P g n).1.ag) ∧ n ≠ .nd ∧ ((∀ k, n ≠ .ng k) → (replyG P g n).1.ag = g.ag) := by
          cases n with
          | nd =>
            exfalso
            apply h3
            unfold replyG
            dsimp only
            rw [if_neg hst]
          | ng k =>
            have e2 : replyG P g (.ng k) = ({ g with tm := 0, tr := 0, ag := askedG P.F g.ag k }, []) := by unfold replyG; dsimp only; rw [if_neg hst]
            rw [e2]
            obtain ⟨k1, k2, k3⟩ := asked_phi (M := M) k g.ag hG0.2
            exact ⟨k1, k2, ⟨rfl, rfl⟩, fun _ hl => k3 hl hG0.1, (fun h => by cases h), fun h => absurd rfl (h k)⟩
          | se =>
            have e2 : replyG P g .se = ({ g with tm := 0, tr := 0, st := if g.st = 1 then 2 else g.st }, []) := by unfold replyG; dsimp only; rw [if_neg hst]
            rw [e2]
            exact ⟨rfl, id, ⟨rfl, rfl⟩, (fun ⟨k, hk⟩ => by cases hk), (fun h => by cases h), fun _ => rfl⟩
          | nm => exact absurd hn0 id
          | np x y => exact absurd hn0 id
          | ne => exact absurd hn0 id
          | sd => exact absurd hn0 id
        obtain ⟨o1, o2, o3, o4, o5, o6⟩ := one
        refine ⟨ih.ph.trans o1, fun hu => ih.us (o2 hu), (fun h => by cases h), fun _ => ?_, fun ⟨k, hk⟩ hl => ?_, fun hk => ?_⟩
        · by_cases hr0 : r = []
          · have := ih.no hr0
            show (repliesL P (replyG P g n).1 r).1.tr = 0 ∧ (repliesL P (replyG P g n).1 r).1.tm = 0
            rw [this]
            exact o3
          · exact ih.z hr0
        · by_cases hng : ∃ k, n = .ng k
          · exact ih.us (o4 hng hl)
          · rcases List.mem_cons.1 hk with rfl | hk
            · exact absurd ⟨k, rfl⟩ hng
            · exact ih.nu ⟨k, hk⟩ (by rw [o6 (fun k hk => hng ⟨k, hk⟩)]; exact hl)
        · rcases List.mem_cons.1 hk with h | h
          · exact o5 h.symm
          · exact ih.nd h
end Go.Proofs.Ytopmamgdfngdoaa
