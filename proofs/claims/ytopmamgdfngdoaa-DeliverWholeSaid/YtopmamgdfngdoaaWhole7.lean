/- DeliverWhole, plain: when nothing is lost any more both come to an end. -/
import Derived.Test.YtopmamgdfngdoaaWhole6
import Derived.Test.YtopmamgdfngdoaaWhole5
namespace Go.Proofs.Ytopmamgdfngdoaa
set_option linter.unusedVariables false

def useB (F : Nat) (M : Nat → Bool) (ag : List Sp) : Bool := ag.any fun e => (List.range (F + 1)).any fun i => covB e i && M i
theorem useB_iff (F : Nat) (M : Nat → Bool) (ag : List Sp) : useB F M ag = true ↔ use F M ag := by
  unfold useB use
  rw [List.any_eq_true]
  constructor
  · rintro ⟨e, he, h⟩
    rw [List.any_eq_true] at h
    obtain ⟨i, hi, h⟩ := h
    rw [Bool.and_eq_true] at h
    rw [List.mem_range] at hi
    exact ⟨e, he, i, by omega, (covB_iff e i).1 h.1, h.2⟩
  · rintro ⟨e, he, i, hi, h1, h2⟩
    refine ⟨e, he, ?_⟩
    rw [List.any_eq_true]
    exact ⟨i, List.mem_range.2 (by omega), by rw [Bool.and_eq_true]; exact ⟨(covB_iff e i).2 h1, h2⟩⟩
def idle (F : Nat) (M : Nat → Bool) (g : GS) : Nat := if useB F M g.ag = true then 0 else 10 - (match g.ag with | [] => g.tm | _ => 0)
def om (P : Par) (g : GS) (t : TS) : Nat :=
  if g.st = 0 then 125000 + (if g.fi = true then 1 else 0) + (P.F - g.pos) else phi P.F (misB t) g.ag + 12 * cnt P.F (misB t) + idle P.F (misB t) g
theorem idle_le (F : Nat) (M : Nat → Bool) (g : GS) : idle F M g ≤ 10 := by unfold idle; split <;> omega
theorem om_le {P : Par} {g : GS} {t : TS} (hF : P.F ≤ 120) (hl : g.ag.length ≤ 1000) : om P g t ≤ 125121 := by
  unfold om
  split
  · split <;> omega
  · have h1 := phi_le P.F (misB t) g.ag hl
    have h2 := cnt_le P.F (misB t)
    have h3 := idle_le P.F (misB t) g
    have h4 : 1000 * (P.F + 1) ≤ 1000 * 121 := Nat.mul_le_mul_left _ (by omega)
    omega
theorem om_low {P : Par} {g : GS} {t : TS} (hF : P.F ≤ 120) (hl : g.ag.length ≤ 1000) (h0 : g.st ≠ 0) : om P g t < 125000 := by
  unfold om
  rw [if_neg h0]
  have h1 := phi_le P.F (misB t) g.ag hl
  have h2 := cnt_le P.F (misB t)
  have h3 := idle_le P.F (misB t) g
  have h4 : 1000 * (P.F + 1) ≤ 1000 * 121 := Nat.mul_le_mul_left _ (by omega)
  omega
structure Pok (P : Par) : Prop where
  F : P.F ≤ 120
  m : 0 < P.m
  b : 0 < P.b
  b9 : P.b ≤ 9
  p : 0 < P.p
  p9 : P.p ≤ 9
structure DI (P : Par) (c : CS) : Prop where
  ci : CI P 81 c
  dn : c.dn = []
  up : c.up = []
  gr : c.g.tr ≤ 80
  tr : c.t.st = 0 → c.g.ag = [] → c.t.tr ≤ 80
  n3 : c.g.st ≠ 3
/-- a tick, from a state in which nothing is on its way -/
def afterD (P : Par) (c : CS) : CS :=
  ⟨(repliesL P (giveG P c.g).1 ((waitT P c.t).2 ++ (takesL P (waitT P c.t).1 (giveG P c.g).2).2)).1, (takesL P (waitT P c.t).1 (giveG P c.g).2).1, (repliesL P (giveG P c.g).1 ((waitT P c.t).2 ++ (takesL P (waitT P c.t).1 (giveG P c.g).2).2)).2, []⟩
structure Parts (P : Par) (c : CS) : Prop where
  gi : GI P (giveG P c.g).1
  out : ∀ n ∈ (giveG P c.g).2, vD P (giveG P c.g).1.st n
  gst : c.g.st ≤ (giveG P c.g).1.st
  g3 : (giveG P c.g).1.st = 3 → c.g.st = 3
  gtr : (giveG P c.g).1.tr ≤ c.g.tr + 1
  olen : (giveG P c.g).2.length ≤ P.b + 1
  wi : TI P (waitT P c.t).1
  wst : (waitT P c.t).1.st = c.t.st
  wm : ∀ i, mis (waitT P c.t).1 i ↔ mis c.t i
  wtr : (waitT P c.t).1.tr ≤ c.t.tr + 1
  wlen : (waitT P c.t).2.length ≤ 1
  wen : c.t.en = false → waitT P c.t = (c.t, [])
  wn : (waitT P c.t).1.en = c.t.en
  tk : TksR P (waitT P c.t).1 (takesL P (waitT P c.t).1 (giveG P c.g).2).1 (giveG P c.g).2 (takesL P (waitT P c.t).1 (giveG P c.g).2).2 (giveG P c.g).1.st
  vu : ∀ n ∈ (waitT P c.t).2 ++ (takesL P (waitT P c.t).1 (giveG P c.g).2).2, vU P (giveG P c.g).1.st (takesL P (waitT P c.t).1 (giveG P c.g).2).1.st n
  gd : ∀ n ∈ (waitT P c.t).2 ++ (takesL P (waitT P c.t).1 (giveG P c.g).2).2, Good P.F (misB c.t) n
theorem parts {P : Par} {k : Nat} {c : CS} (hP : Pok P) (h : CI P k c) (hk : k < 100) : Parts P c := by
  obtain ⟨a1, a2, a3, a4, a5, a6⟩ := h.g.give hP.m hP.p (by have := h.gr; omega)
  obtain ⟨b1, b2, b3, b4, b5, b6, b7, b8, b9⟩ := h.t.wait (gs := c.g.st) hP.p h.en (fun e => by have := h.tr e; omega)
  have hen : (waitT P c.t).1.en = true → 1 ≤ (giveG P c.g).1.st := fun e => by rw [b4] at e; exact Nat.le_trans (h.en e) a3
  have d := takes_ok hP.p (giveG P c.g).1.st (giveG P c.g).2 (waitT P c.t).1 b1 hen a2
  refine ⟨a1, a2, a3, a4, a5, a6, b1, b3, fun i => mis_of b5 b6 i, b8, b7, b9, b4, d, fun n hn => ?_, fun n hn => ?_⟩
  · rcases List.mem_append.1 hn with k1 | k1
    · exact vU_mono (b2 n k1) a3 (fun e => d.st (by rw [b3]; exact e))
    · exact d.up n k1
  · rcases List.mem_append.1 hn with k1 | k1
    · exact wait_good h.t n k1
    · exact takes_good hP.p _ (misB c.t) _ _ b1 hen a2 (fun i hi hm => by rw [misB_iff, mis_of b5 b6] at hm; exact (misB_iff c.t i).2 hm) n k1
theorem tick_after {P : Par} {c : CS} (hP : Pok P) (h : Parts P c) (hd : c.dn = []) (hu : c.up = []) : tickD P quietD c = afterD P c := by
  have h1 : (giveG P c.g).2.length ≤ 1000 := by have := h.olen; have := hP.b9; omega
  have h2 : ((waitT P c.t).2 ++ (takesL P (waitT P c.t).1 (giveG P c.g).2).2).length ≤ 1000 := by
    rw [List.length_append]
    have := h.wlen
    have := h.tk.len
    have := h.olen
    have := hP.b9
    omega
  unfold tickD quietD afterD
  simp only [hd, hu, List.nil_append, comes_quiet, List.take_of_length_le h1, List.drop_of_length_le h1, List.take_of_length_le h2, List.drop_of_length_le h2]
/-- what the giver sends first -/
theorem first0 {P : Par} (hm : 0 < P.m) : ∀ (f : Nat) (g : GS), 0 < f → g.st = 0 → g.ag = [] → g.pos ≤ P.F → (loopG P f g).1.st = 0 → (loopG P f g).2 ≠ [] ∧ (loopG P f g).1.ag = [] ∧ (if (loopG P f g).1.fi = true then 1 else 0) + (P.F - (loopG P f g).1.pos) < (if g.fi = true then 1 else 0) + (P.F - g.pos)
  | 0, g, h, _, _, _, _ => absurd h (Nat.lt_irrefl 0)
  | f + 1, g, _, h0, ha, hpos, hs => by
    have key : ∀ (g' : GS) (n : NT), nextG P g = ⟨g', [n], true⟩ → g'.st = 0 → g'.ag = [] → g'.pos ≤ P.F → (if g'.fi = true then 1 else 0) + (P.F - g'.pos) < (if g.fi = true then 1 else 0) + (P.F - g.pos) → (loopG P (f + 1) g).2 ≠ [] ∧ (loopG P (f + 1) g).1.ag = [] ∧ (if (loopG P (f + 1) g).1.fi = true then 1 else 0) + (P.F - (loopG P (f + 1) g).1.pos) < (if g.fi = true then 1 else 0) + (P.F - g.pos) := by
      intro g' n e e1 e2 e3 e4
      have e5 : loopG P (f + 1) g = ((loopG P f g').1, [n] ++ (loopG P f g').2) := by
        conv => lhs; unfold loopG
        rw [e]
        rfl
      rw [e5] at hs ⊢
      refine ⟨(fun h => by cases h), ?_⟩
      cases f with
      | zero => exact ⟨e2, e4⟩
      | succ f' =>
        obtain ⟨k1, k2, k3⟩ := first0 hm (f' + 1) g' (Nat.succ_pos _) e1 e2 e3 hs
        exact ⟨k2, Nat.lt_trans k3 e4⟩
    by_cases hf : g.fi = true
    · refine key { g with fi := false } .nm (by unfold nextG; rw [if_pos hf]) h0 ha hpos ?_
      rw [if_pos hf]
      show (if (false : Bool) = true then 1 else 0) + (P.F - g.pos) < _
      rw [if_neg (by decide)]
      omega
    · by_cases hlt : g.pos < P.F
      · refine key { g with pos := min P.F (g.pos + P.m) } (.np g.pos (min P.F (g.pos + P.m))) ?_ h0 ha (by show min P.F (g.pos + P.m) ≤ P.F; omega) ?_
        · unfold nextG
          rw [if_neg hf, ha]
          dsimp only
          rw [if_neg (by omega), if_pos hlt]
        · show (if g.fi = true then 1 else 0) + (P.F - min P.F (g.pos + P.m)) < _
          omega
      · exfalso
        have e : nextG P g = ⟨{ g with st := 1, tm := 0, tr := 0 }, [.ne], false⟩ := by
          unfold nextG
          rw [if_neg hf, ha]
          dsimp only
          rw [if_neg (by omega), if_neg hlt]
        have e5 : (loopG P (f + 1) g).1.st = 1 := by
          unfold loopG
          rw [e]
          rfl
        omega
theorem take_ne_up {P : Par} {t : TS} (n : NT) (h : n = .ne) : .se ∈ (takeT P t n).2 := by
  subst h
  unfold takeT
  split
  · exact List.mem_cons_self
  · exact List.mem_cons_self
theorem takes_up {P : Par} : ∀ (l : List NT) (t : TS), .ne ∈ l → .se ∈ (takesL P t l).2
  | [], t, h => by cases h
  | n :: r, t, h => by
    unfold takesL
    rcases List.mem_cons.1 h with h | h
    · exact List.mem_append_left _ (take_ne_up n h.symm)
    · exact List.mem_append_right _ (takes_up r _ h)
end Go.Proofs.Ytopmamgdfngdoaa
/- DeliverWhole, plain: a tick with nothing on its way brings both nearer to the end. -/
namespace Go.Proofs.Ytopmamgdfngdoaa
set_option linter.unusedVariables false

theorem loop0_ne {P : Par} {g : GS} (f : Nat) (h0 : g.st = 0) (ha : g.ag = []) : (loopG P (f + 1) g).2 ≠ [] ∧ (loopG P (f + 1) g).1.tr ≤ g.tr := by
  refine ⟨?_, ?_⟩
  · unfold loopG
    by_cases hf : g.fi = true
    · have e : nextG P g = ⟨{ g with fi := false }, [.nm], true⟩ := by unfold nextG; rw [if_pos hf]
      rw [e]
      show (if (true : Bool) = true then _ else _ : GS × List NT).2 ≠ []
      rw [if_pos rfl]
      exact fun h => by cases h
    · by_cases hlt : g.pos < P.F
      · have e : nextG P g = ⟨{ g with pos := min P.F (g.pos + P.m) }, [.np g.pos (min P.F (g.pos + P.m))], true⟩ := by
          unfold nextG
          rw [if_neg hf, ha]
          dsimp only
          rw [if_neg (by omega), if_pos hlt]
        rw [e]
        show (if (true : Bool) = true then _ else _ : GS × List NT).2 ≠ []
        rw [if_pos rfl]
        exact fun h => by cases h
      · have e : nextG P g = ⟨{ g with st := 1, tm := 0, tr := 0 }, [.ne], false⟩ := by
          unfold nextG
          rw [if_neg hf, ha]
          dsimp only
          rw [if_neg (by omega), if_neg hlt]
        rw [e]
        show (if (false : Bool) = true then _ else _ : GS × List NT).2 ≠ []
        rw [if_neg (by decide)]
        exact fun h => by cases h
  · have tr1 : ∀ (f : Nat) (g : GS), (loopG P f g).1.tr ≤ g.tr := by
      intro f
      induction f with
      | zero => intro g; exact Nat.le_refl _
      | succ f ih =>
        intro g
        have hn : (nextG P g).g.tr ≤ g.tr := by
          unfold nextG
          split
          · exact Nat.le_refl _
          · split
            · unfold againG
              split
              · exact Nat.le_refl _
              · split <;> exact Nat.le_refl _
            · split
              · exact Nat.le_refl _
              · split
                · exact Nat.le_refl _
                · exact Nat.zero_le _
        unfold loopG
        split
        · exact Nat.le_trans (ih _) hn
        · exact hn
    exact tr1 (f + 1) g
/-- when the giver says 'end', the taker says something of use, or is done -/
theorem end_up {P : Par} {t : TS} (h : TI P t) (hp : 0 < P.p) : (.nd ∈ (takeT P t .ne).2) ∨ ∃ k, .ng k ∈ (takeT P t .ne).2 := by
  rcases h.st with h0 | h0
  · obtain ⟨j1, j2, j3, j4, j5, j6, j7, j8, j9, j10⟩ := judge_ok (P := P) (t := { t with tm := 0, tr := 0, en := true }) h.ris h.top h0 hp (Nat.zero_le _) 1
    have e : takeT P t .ne = ending P { t with tm := 0, tr := 0, en := true } := by unfold takeT; rw [if_pos h0]
    rw [e]
    unfold ending
    rcases j1.st with hs | hs
    · right
      rw [if_pos hs]
      have h2 : Ris 0 (judgeT P { t with tm := 0, tr := 0, en := true }).1.hv := by rw [j5]; exact h.ris
      have h3 := j1.un hs
      rw [j3, Bool.and_true] at h3
      obtain ⟨k, hk⟩ := (ask_good (P := P) h2).2 h3
      exact ⟨k, List.mem_cons_of_mem _ (List.mem_append_right _ hk)⟩
    · exact .inl (List.mem_cons_of_mem _ (List.mem_append_left _ (j10 hs)))
  · left
    have e : takeT P t .ne = (t, [.se, .nd]) := by unfold takeT; rw [if_neg (by omega)]
    rw [e]
    exact List.mem_cons_of_mem _ (List.mem_singleton.2 rfl)
/-- a taker that waits: nothing, or something of use -/
theorem wait_up {P : Par} {t : TS} (h : TI P t) (htr : t.st = 0 → t.tr < 100) : ((waitT P t).2 = [] ∧ (waitT P t).1.tr ≤ t.tr) ∨ (.nd ∈ (waitT P t).2) ∨ ∃ k, .ng k ∈ (waitT P t).2 := by
  unfold waitT
  split
  · rename_i hc
    split
    · rw [if_neg (by have := htr hc.1; omega)]
      have h3 := h.un hc.1
      rw [hc.2, Bool.and_true] at h3
      obtain ⟨k, hk⟩ := (ask_good (P := P) h.ris).2 h3
      exact .inr (.inr ⟨k, hk⟩)
    · exact .inl ⟨rfl, Nat.le_refl _⟩
  · split
    · split
      · exact .inr (.inl (List.mem_singleton.2 rfl))
      · exact .inl ⟨rfl, Nat.le_refl _⟩
    · exact .inl ⟨rfl, Nat.le_refl _⟩
theorem takes_nil (P : Par) (t : TS) : takesL P t [] = (t, []) := rfl
theorem takes_one (P : Par) (t : TS) (n : NT) : takesL P t [n] = ((takeT P t n).1, (takeT P t n).2 ++ []) := rfl
theorem drained {P : Par} {c : CS} (hP : Pok P) (h : DI P c) : (afterD P c).dn.length < 5000 ∧ ((afterD P c).g.st = 3 ∨ (DI P (afterD P c) ∧ om P (afterD P c).g (afterD P c).t < om P c.g c.t)) := by
  have ci := h.ci
  have pt := parts hP ci (by omega)
  have hci2 := (ci.tick hP.m hP.p (by omega) quietD).1
  rw [tick_after hP pt h.dn h.up] at hci2
  have rp := replies_ok hP.p _ _ _ pt.gi pt.vu
  have rph := replies_phi hP.p (misB c.t) _ _ _ pt.gi pt.vu pt.gd
  have hlen : ((waitT P c.t).2 ++ (takesL P (waitT P c.t).1 (giveG P c.g).2).2).length ≤ 31 := by
    rw [List.length_append]
    have := pt.wlen
    have := pt.tk.len
    have := pt.olen
    have := hP.b9
    omega
  refine ⟨?_, ?_⟩
  · show (repliesL P (giveG P c.g).1 _).2.length < 5000
    have := rp.len
    omega
  rcases rph with rph | rph
  · exact .inl rph
  by_cases hs3 : (afterD P c).g.st = 3
  · exact .inl hs3
  right
  have hdn : (afterD P c).dn = [] := rp.no hs3
  -- names
  obtain ⟨g1, hg1⟩ : ∃ g1, g1 = (giveG P c.g).1 := ⟨_, rfl⟩
  obtain ⟨out, hout⟩ : ∃ out, out = (giveG P c.g).2 := ⟨_, rfl⟩
  obtain ⟨g', hg'⟩ : ∃ g', g' = (afterD P c).g := ⟨_, rfl⟩
  obtain ⟨t', ht'⟩ : ∃ t', t' = (afterD P c).t := ⟨_, rfl⟩
  obtain ⟨ups, hups⟩ : ∃ ups, ups = (waitT P c.t).2 ++ (takesL P (waitT P c.t).1 (giveG P c.g).2).2 := ⟨_, rfl⟩
  have tk : TksR P (waitT P c.t).1 t' out (takesL P (waitT P c.t).1 (giveG P c.g).2).2 g1.st := by rw [hg1, hout, ht']; exact pt.tk
  have rph' : RphR P.F (misB c.t) g1 g' ups := by rw [hg1, hg', hups]; exact rph
  have rst : g1.st ≤ g'.st := by rw [hg1, hg']; exact rp.st
  have rtr : g'.tr ≤ g1.tr := by rw [hg1, hg']; exact rp.tr
  have vu : ∀ n ∈ ups, vU P g1.st t'.st n := by rw [hg1, hups, ht']; exact pt.vu
  have n3 : c.g.st ≠ 3 := h.n3
  have hgi' : GI P g' := by rw [hg']; exact hci2.g
  -- what is left to show
  have fin : g'.tr ≤ 80 → (t'.st = 0 → t'.tr ≤ 81) → (t'.st = 0 → g'.ag = [] → t'.tr ≤ 80) → om P g' t' < om P c.g c.t → DI P (afterD P c) ∧ om P (afterD P c).g (afterD P c).t < om P c.g c.t := fun f1 f2 f3 f4 => by
    rw [hg'] at f1 f3 f4
    rw [ht'] at f2 f3 f4
    exact ⟨⟨⟨hci2.g, hci2.t, hci2.dn, hci2.up, hci2.en, hci2.gt, by omega, f2⟩, hdn, rfl, f1, f3, hs3⟩, f4⟩
  refine fin ?_ ?_ ?_ ?_ <;> clear fin
  all_goals
    by_cases h0 : c.g.st = 0
    · -- the giver begins
      have ha := ci.g.a0 h0
      have hen : c.t.en = false := by
        cases e : c.t.en with
        | false => rfl
        | true => have := ci.en e; omega
      have ht0 : c.t.st = 0 := by
        rcases ci.t.st with h | h
        · exact h
        · have := (ci.t.ov h).2.1; rw [hen] at this; cases this
      have hw := pt.wen hen
      have hgive : giveG P c.g = loopG P P.b c.g := by unfold giveG; rw [if_neg (by omega), if_neg (by omega)]
      obtain ⟨b', hb'⟩ : ∃ b', P.b = b' + 1 := ⟨P.b - 1, by have := hP.b; omega⟩
      obtain ⟨ne, ltr⟩ := loop0_ne (P := P) b' h0 ha
      rw [← hb'] at ne ltr
      rw [← hgive] at ne ltr
      rw [← hout] at ne
      rw [← hg1] at ltr
      have gr := h.gr
      first
        | omega
        | exact fun e => by have := tk.trn e ne; omega
        | exact fun e _ => by have := tk.trn e ne; omega
        | (by_cases h1 : g1.st = 0
           · have hno : ups = [] := by
               rcases List.eq_nil_or_concat ups with e | ⟨l, n, e⟩
               · exact e
               · exfalso
                 have hn := vu n (by rw [e, List.concat_eq_append]; exact List.mem_append_right _ (List.mem_singleton.2 rfl))
                 rw [h1] at hn
                 cases n with
                 | ng l => exact absurd hn.2.2.2 (by omega)
                 | se => exact absurd hn (by show ¬ 1 ≤ 0; omega)
                 | nd =>
                   have h3 : t'.st = 3 := hn
                   have := tk.en (tk.ti.ov h3).2.1
                   omega
                 | nm => exact hn
                 | np x y => exact hn
                 | ne => exact hn
                 | sd => exact hn
             have e := rph'.no hno
             obtain ⟨_, k2, k3⟩ := first0 hP.m P.b c.g hP.b h0 ha ci.g.pos (by rw [← hgive, ← hg1]; exact h1)
             rw [← hgive, ← hg1] at k3
             rw [e]
             unfold om
             rw [if_pos h1, if_pos h0]
             omega
           · have k1 : om P g' t' < 125000 := om_low hP.F hgi'.len (by omega)
             have k2 : 125000 ≤ om P c.g c.t := by unfold om; rw [if_pos h0]; omega
             omega)
    · -- the end was told
      obtain ⟨hpos, hfi⟩ := ci.g.od h0
      have hst3 := ci.g.st
      obtain ⟨s1, s2, s3, s4, s5, s6⟩ := serve hP.m (misB c.t) P.b c.g h0 hfi ci.g
      have hL := (GI.loop hP.m hP.p P.b c.g ci.g).1
      obtain ⟨w1, w2, w3, w4, w5, w6⟩ := hL.wait hP.p (by rw [s6]; exact h0) (by rw [s5]; have := h.gr; omega)
      have hgive : giveG P c.g = ((waitG P (loopG P P.b c.g).1).1, (loopG P P.b c.g).2 ++ (waitG P (loopG P P.b c.g).1).2) := by unfold giveG; rw [if_neg (by omega), if_pos h0]
      have eg1 : g1 = (waitG P (loopG P P.b c.g).1).1 := by rw [hg1, hgive]
      have eout : out = (loopG P P.b c.g).2 ++ (waitG P (loopG P P.b c.g).1).2 := by rw [hout, hgive]
      have eag : g1.ag = (loopG P P.b c.g).1.ag := by rw [eg1]; exact w6
      -- if an end goes, something comes back
      have hse : .ne ∈ out → ups ≠ [] := fun hn => by
        have := takes_up (P := P) out (waitT P c.t).1 hn
        rw [hups, ← hout]
        intro e
        rw [(List.append_eq_nil_iff.1 e).2] at this
        cases this
      have hw2 : (waitG P (loopG P P.b c.g).1).2 = [] ∧ (waitG P (loopG P P.b c.g).1).1 = { (loopG P P.b c.g).1 with tm := (loopG P P.b c.g).1.tm + 1 } ∨ .ne ∈ out := by
        rw [eout]
        unfold waitG
        split
        · exact .inl ⟨rfl, rfl⟩
        · rw [if_neg (by rw [s5]; have := h.gr; omega)]
          exact .inr (List.mem_append_right _ (List.mem_singleton.2 rfl))
      have gtr : g'.tr ≤ 80 := by
        by_cases hu : ups = []
        · rcases hw2 with ⟨_, e⟩ | e
          · rw [rph'.no hu, eg1, e]
            show (loopG P P.b c.g).1.tr ≤ 80
            rw [s5]
            exact h.gr
          · exact absurd hu (hse e)
        · rw [(rph'.z hu).1]
          exact Nat.zero_le _
      have hne : c.g.ag ≠ [] → out ≠ [] := fun ha => by
        rw [eout]
        intro e
        exact s3 ha hP.b (List.append_eq_nil_iff.1 e).1
      have wtr := pt.wtr
      -- nothing goes once more
      have hB2 : c.g.ag = [] → ((∃ k, .ng k ∈ ups) ∨ (ups = [] ∧ out = [] ∧ g1 = { c.g with tm := c.g.tm + 1 } ∧ t' = (waitT P c.t).1 ∧ (waitT P c.t).1.tr ≤ c.t.tr)) := fun ha => by
        have e0 := s2 ha
        rw [e0] at eout eg1 hw2
        rw [List.nil_append] at eout
        rcases hw2 with ⟨e1, e2⟩ | e1
        · have eo : out = [] := by rw [eout]; exact e1
          have ek : takesL P (waitT P c.t).1 (giveG P c.g).2 = ((waitT P c.t).1, []) := by rw [← hout, eo]; rfl
          have eu : ups = (waitT P c.t).2 := by rw [hups, ek]; exact List.append_nil _
          rcases wait_up ci.t (fun e => by have := ci.tr e; omega) with ⟨k1, k2⟩ | k1 | ⟨k, k1⟩
          · right
            refine ⟨by rw [eu]; exact k1, eo, by rw [eg1]; exact e2, ?_, k2⟩
            rw [ht']
            show (takesL P (waitT P c.t).1 (giveG P c.g).2).1 = _
            rw [ek]
          · exact absurd (by rw [eu]; exact k1) rph'.nd
          · exact .inl ⟨k, by rw [eu]; exact k1⟩
        · left
          have eo : out = [.ne] := by
            rw [eout]
            rw [eout] at e1
            unfold waitG at e1 ⊢
            split at e1
            · cases e1
            · rename_i hlt
              rw [if_neg hlt]
              split at e1
              · cases e1
              · rename_i htr
                rw [if_neg htr]
          have ek : (takesL P (waitT P c.t).1 (giveG P c.g).2).2 = (takeT P (waitT P c.t).1 .ne).2 := by rw [← hout, eo, takes_one]; exact List.append_nil _
          rcases end_up pt.wi hP.p with k1 | ⟨k, k1⟩
          · exact absurd (by rw [hups, ek]; exact List.mem_append_right _ k1) rph'.nd
          · exact ⟨k, by rw [hups, ek]; exact List.mem_append_right _ k1⟩
      have hMb : ∀ i, i ≤ P.F → (misB t' i = true ↔ misB c.t i = true ∧ ∀ n ∈ out, ¬ dl n i) := fun i hi => by
        rw [misB_iff, misB_iff, tk.mis i hi, pt.wm i]
      have hsub : ∀ i, i ≤ P.F → misB t' i = true → misB c.t i = true := fun i hi h => ((hMb i hi).1 h).1
      have hph : phi P.F (misB t') g'.ag ≤ phi P.F (misB c.t) c.g.ag := by
        refine Nat.le_trans (phi_mono hsub g'.ag) ?_
        rw [rph'.ph, eag]
        exact s1.le
      have hcn : cnt P.F (misB t') ≤ cnt P.F (misB c.t) := cnt_mono _ hsub
      have gne : ∀ k, .ng k ∈ ups → g1.ag.length < 1000 → g'.ag ≠ [] := fun k hk hl e => by
        obtain ⟨x, hx, _⟩ := rph'.nu ⟨k, hk⟩ hl
        rw [e] at hx
        cases hx
      first
        | exact gtr
        | (intro e
           by_cases ha : c.g.ag = []
           · have := tk.tr e
             have := h.tr (by
               rcases ci.t.st with h | h
               · exact h
               · have := tk.st (by rw [pt.wst]; exact h); omega) ha
             omega
           · have := tk.trn e (hne ha)
             omega)
        | (intro e hga
           by_cases ha : c.g.ag = []
           · have hl1 : g1.ag.length < 1000 := by rw [eag, s2 ha, ha]; exact Nat.zero_lt_succ _
             rcases hB2 ha with ⟨k, hk⟩ | ⟨k1, k2, k3, k4, k5⟩
             · exact absurd hga (gne k hk hl1)
             · have := h.tr (by
                 rcases ci.t.st with h | h
                 · exact h
                 · have := tk.st (by rw [pt.wst]; exact h); omega) ha
               rw [k4]
               omega
           · have := tk.trn e (hne ha)
             omega)
        | (have e1 : om P c.g c.t = phi P.F (misB c.t) c.g.ag + 12 * cnt P.F (misB c.t) + idle P.F (misB c.t) c.g := by unfold om; rw [if_neg h0]
           have hg1st : g1.st = c.g.st := by rw [eg1, w3, s6]
           have e2 : om P g' t' = phi P.F (misB t') g'.ag + 12 * cnt P.F (misB t') + idle P.F (misB t') g' := by unfold om; rw [if_neg (by omega)]
           rw [e1, e2]
           have hid := idle_le P.F (misB t') g'
           by_cases hlt : cnt P.F (misB t') < cnt P.F (misB c.t)
           · omega
           · have hnone : ∀ n ∈ out, ∀ i, i ≤ P.F → dl n i → misB c.t i = false := fun n hn i hi hd => by
               cases e : misB c.t i with
               | false => rfl
               | true =>
                 exfalso
                 apply hlt
                 refine cnt_lt _ hsub ⟨i, hi, e, ?_⟩
                 rw [Bool.eq_false_iff]
                 intro h2
                 exact ((hMb i hi).1 h2).2 n hn hd
             have hsame : ∀ i, i ≤ P.F → (misB c.t i = true → misB t' i = true) := fun i hi h2 => (hMb i hi).2 ⟨h2, fun n hn hd => by rw [hnone n hn i hi hd] at h2; cases h2⟩
             have husem : ∀ ag, use P.F (misB c.t) ag → use P.F (misB t') ag := fun ag ⟨x, hx, i, hi, hc, hm⟩ => ⟨x, hx, i, hi, hc, hsame i hi hm⟩
             have hid0 : use P.F (misB c.t) g'.ag → idle P.F (misB t') g' = 0 := fun hu => by
               unfold idle
               rw [if_pos ((useB_iff _ _ _).2 (husem _ hu))]
             by_cases ha : c.g.ag = []
             · have hl1 : g1.ag.length < 1000 := by rw [eag, s2 ha, ha]; exact Nat.zero_lt_succ _
               have htm := ci.g.tm
               have hp9 := hP.p9
               have hidc : idle P.F (misB c.t) c.g = 10 - c.g.tm := by
                 unfold idle
                 rw [ha, if_neg (by unfold useB; simp)]
               rcases hB2 ha with ⟨k, hk⟩ | ⟨k1, k2, k3, k4, k5⟩
               · have := hid0 (rph'.nu ⟨k, hk⟩ hl1)
                 omega
               · have eg := rph'.no k1
                 have hidg : idle P.F (misB t') g' = 10 - (c.g.tm + 1) := by
                   rw [eg, k3]
                   unfold idle
                   show (if useB P.F (misB t') c.g.ag = true then 0 else 10 - (match c.g.ag with | [] => c.g.tm + 1 | _ => 0)) = _
                   rw [ha, if_neg (by unfold useB; simp)]
                 omega
             · have hlo := s3 ha hP.b
               obtain ⟨n, hn⟩ := List.exists_mem_of_ne_nil _ hlo
               obtain ⟨i, hi, hd⟩ := s1.ne n hn
               have hstrict := s1.lt ⟨n, hn, i, hi, hd, hnone n (by rw [eout]; exact List.mem_append_left _ hn) i hi hd⟩
               have hph2 : phi P.F (misB t') g'.ag < phi P.F (misB c.t) c.g.ag := by
                 refine Nat.lt_of_le_of_lt (phi_mono hsub g'.ag) ?_
                 rw [rph'.ph, eag]
                 exact hstrict
               have hidle : idle P.F (misB t') g' ≤ idle P.F (misB c.t) c.g := by
                 by_cases hu : useB P.F (misB c.t) c.g.ag = true
                 · have hu2 := s1.us ((useB_iff _ _ _).1 hu) (fun n hn => hnone n (by rw [eout]; exact List.mem_append_left _ hn))
                   rw [← eag] at hu2
                   rw [hid0 (rph'.us hu2)]
                   exact Nat.zero_le _
                 · have : idle P.F (misB c.t) c.g = 10 := by
                     unfold idle
                     rw [if_neg hu]
                     cases e : c.g.ag with
                     | nil => exact absurd e ha
                     | cons x r => rfl
                   omega
               omega)
end Go.Proofs.Ytopmamgdfngdoaa
/- DeliverWhole, plain: the whole run. -/
namespace Go.Proofs.Ytopmamgdfngdoaa
set_option linter.unusedVariables false

theorem CI.mono {P : Par} {k k' : Nat} {c : CS} (h : CI P k c) (hk : k ≤ k') : CI P k' c := ⟨h.g, h.t, h.dn, h.up, h.en, h.gt, Nat.le_trans h.gr hk, fun e => Nat.le_trans (h.tr e) hk⟩
structure LI (P : Par) (i : Nat) (c : CS) : Prop where
  ci : CI P i c
  dn : c.dn.length ≤ 21 * i
  up : c.up.length ≤ 34 * i
theorem LI.tick {P : Par} {i : Nat} {c : CS} (hP : Pok P) (h : LI P i c) (hi : i < 60) (w : HW) (hd : w.d ≤ 11) (hu : w.u ≤ 11) : LI P (i + 1) (tickD P w c) := by
  obtain ⟨h1, h2, h3, _⟩ := h.ci.tick hP.m hP.p (by omega) w
  have := h.dn
  have := h.up
  have := hP.b9
  exact ⟨h1, by omega, by omega⟩
def QI (P : Par) (j : Nat) (c : CS) : Prop := (CI P (60 + j) c ∧ 4 * c.dn.length + c.up.length + 900 * j ≤ 16000) ∨ (DI P c ∧ om P c.g c.t + j ≤ 126000)
theorem QI.lt {P : Par} {j : Nat} {c : CS} (h : QI P j c) : j ≤ 126000 := by
  rcases h with h | h
  · have := h.2; omega
  · have := h.2; omega
theorem QI.first {P : Par} {i : Nat} {c : CS} (hP : Pok P) (h : LI P i c) (hi : i ≤ 60) : QI P 1 (tickD P quietD c) ∧ (tickD P quietD c).dn.length < 5000 := by
  obtain ⟨h1, h2, h3, _⟩ := h.ci.tick hP.m hP.p (by omega) quietD
  have := h.dn
  have := h.up
  have := hP.b9
  have e1 : quietD.d = 1000 := rfl
  have e2 : quietD.u = 1000 := rfl
  exact ⟨.inl ⟨h1.mono (by omega), by omega⟩, by omega⟩
theorem QI.step {P : Par} {j : Nat} {c : CS} (hP : Pok P) (h : QI P j c) (hj : 1 ≤ j) : (tickD P quietD c).dn.length < 5000 ∧ ((tickD P quietD c).g.st = 3 ∨ QI P (j + 1) (tickD P quietD c)) := by
  rcases h with ⟨hc, hl⟩ | ⟨hd, hl⟩
  · have hk : 60 + j < 100 := by omega
    obtain ⟨h1, h2, h3, _⟩ := hc.tick hP.m hP.p hk quietD
    have pt := parts hP hc hk
    have hb9 := hP.b9
    have e1 : quietD.d = 1000 := rfl
    have e2 : quietD.u = 1000 := rfl
    refine ⟨by omega, ?_⟩
    by_cases hs : (tickD P quietD c).g.st = 3
    · exact .inl hs
    right
    -- the lengths
    have hv1 : ∀ n ∈ (c.dn ++ (giveG P c.g).2).take 1000, vD P (giveG P c.g).1.st n := fun n hn => by
      rcases List.mem_append.1 (List.mem_of_mem_take hn) with k1 | k1
      · exact vD_mono (hc.dn n k1) pt.gst (fun e => by have := pt.gi.st; have := pt.gst; omega)
      · exact pt.out n k1
    have tk := takes_ok hP.p (giveG P c.g).1.st ((c.dn ++ (giveG P c.g).2).take 1000) (waitT P c.t).1 pt.wi (fun e => by rw [pt.wn] at e; exact Nat.le_trans (hc.en e) pt.gst) hv1
    have hv2 : ∀ n ∈ (c.up ++ (waitT P c.t).2 ++ (takesL P (waitT P c.t).1 ((c.dn ++ (giveG P c.g).2).take 1000)).2).take 1000, vU P (giveG P c.g).1.st (takesL P (waitT P c.t).1 ((c.dn ++ (giveG P c.g).2).take 1000)).1.st n := fun n hn => by
      rcases List.mem_append.1 (List.mem_of_mem_take hn) with k1 | k1
      · rcases List.mem_append.1 k1 with k2 | k2
        · exact vU_mono (hc.up n k2) pt.gst (fun e => tk.st (by rw [pt.wst]; exact e))
        · have := pt.vu n (List.mem_append_left _ k2)
          have hw := (hc.t.wait (gs := c.g.st) hP.p hc.en (fun e => by have := hc.tr e; omega)).2.1 n k2
          exact vU_mono hw pt.gst (fun e => tk.st (by rw [pt.wst]; exact e))
      · exact tk.up n k1
    have rp := replies_ok hP.p _ _ _ pt.gi hv2
    have hd : (tickD P quietD c).dn.length = (c.dn.length + (giveG P c.g).2.length) - 1000 ∧ (tickD P quietD c).up.length ≤ (c.up.length + 1 + 3 * min 1000 (c.dn.length + (giveG P c.g).2.length)) - 1000 := by
      have hs' := hs
      unfold tickD quietD at hs' ⊢
      simp only [comes_quiet] at hs' ⊢
      rw [rp.no hs', List.append_nil]
      refine ⟨by rw [List.length_drop, List.length_append], ?_⟩
      rw [List.length_drop, List.length_append, List.length_append]
      have h5 := tk.len
      rw [List.length_take, List.length_append] at h5
      have h6 := pt.wlen
      omega
    obtain ⟨hd1, hd2⟩ := hd
    have hol := pt.olen
    by_cases hz : (tickD P quietD c).dn.length = 0 ∧ (tickD P quietD c).up.length = 0
    · right
      have hom : om P (tickD P quietD c).g (tickD P quietD c).t ≤ 125121 := om_le hP.F h1.g.len
      exact ⟨⟨h1.mono (by omega), List.eq_nil_of_length_eq_zero hz.1, List.eq_nil_of_length_eq_zero hz.2, by have := h1.gr; omega, fun e _ => by have := h1.tr e; omega, hs⟩, by omega⟩
    · left
      refine ⟨h1.mono (by omega), ?_⟩
      omega
  · have pt := parts hP hd.ci (by omega)
    rw [tick_after hP pt hd.dn hd.up]
    obtain ⟨h1, h2⟩ := drained hP hd
    refine ⟨h1, ?_⟩
    rcases h2 with h2 | ⟨h2, h3⟩
    · exact .inl h2
    · exact .inr (.inr ⟨h2, by omega⟩)
def cs0 : CS := ⟨⟨true, 0, [], 0, 0, 0⟩, ⟨false, false, [], 0, 0, 0⟩, [], []⟩
theorem LI.zero {P : Par} (hP : Pok P) : LI P 0 cs0 :=
  ⟨⟨⟨Nat.zero_le _, Nat.zero_le _, fun h => absurd rfl h, Nat.zero_le _, (fun s hs => by cases hs), hP.p, Nat.zero_le _, fun _ => rfl⟩,
    ⟨.inl rfl, trivial, (fun s hs => by cases hs), (fun h => by cases h), fun _ => rfl, hP.p, Nat.zero_le _⟩, (fun n hn => by cases hn), (fun n hn => by cases hn), (fun h => by cases h), (fun h => by cases h), Nat.le_refl _, fun _ => Nat.le_refl _⟩, Nat.le_refl _, Nat.le_refl _⟩
theorem QI.st {P : Par} {j : Nat} {c : CS} (h : QI P j c) : ∃ k, CI P k c ∧ k < 100 := by
  rcases h with ⟨h, hl⟩ | ⟨h, _⟩
  · exact ⟨_, h, by omega⟩
  · exact ⟨_, h.ci, by omega⟩
end Go.Proofs.Ytopmamgdfngdoaa
/- deliver: Offer, Expect. -/
namespace Go.Proofs.Ytopmamgdfngdoaa
set_option linter.unusedVariables false
open Go.RowKit

/-- what is given: by what rules, which bytes, their sum -/
structure DP where
  P : Par
  fl : List Nat
  s : Nat
structure DOk (D : DP) : Prop where
  P : Pok D.P
  m40 : D.P.m ≤ 40
  len : D.fl.length = D.P.F
  all : ∀ b ∈ D.fl, b < 256
  s : D.s ≤ 4294967295
def logS : ByteArray := { data := #[108, 111, 103] }
def emS : ByteArray := { data := #[] }
def tcells (D : DP) (t : TS) (ha : Option Addr) (hn hc : Nat) (fa : Option Addr) (fn fc : Nat) : Array Value :=
  #[.int .i64 7, .bool t.kn, .string (if t.kn = true then logS else emS), .int .i64 (if t.kn = true then (D.P.F : Int) else 0), .bool t.en, .int .i64 (if t.en = true then (D.P.F : Int) else 0), .int .i64 (if t.en = true then (D.s : Int) else 0), .slice ha hn hc, .slice fa fn fc, .int .i64 (t.st : Int), .int .i64 (t.tm : Int), .int .i64 (D.P.p : Int), .int .i64 (t.tr : Int), .int .i64 100]
set_option maxRecDepth 1000000 in
set_option maxHeartbeats 4000000 in
theorem expect_ok (p : Nat) (w : World) (h1 : 1 ≤ p) (h2 : p ≤ 1000) :
    Calls Try.prog 6 #[.int .i64 7, .int .i64 (p : Int), .int .i64 100] w fun e w' => e = .returned (.tuple #[.agg #[.int .i64 7, .bool false, .string emS, .int .i64 0, .bool false, .int .i64 0, .int .i64 0, .slice none 0 0, .slice none 0 0, .int .i64 0, .int .i64 0, .int .i64 (p : Int), .int .i64 0, .int .i64 100], .int .i64 0]) ∧ Below w.heap.size w w' := by
  have bN := hid (below_alloc w (.cells #[.int .i64 0, .bool false, .string emS, .int .i64 0, .bool false, .int .i64 0, .int .i64 0, .slice none 0 0, .slice none 0 0, .int .i64 0, .int .i64 0, .int .i64 0, .int .i64 0, .int .i64 0] 33))
  have A := hid (heap_alloc_new w (.cells #[.int .i64 0, .bool false, .string emS, .int .i64 0, .bool false, .int .i64 0, .int .i64 0, .slice none 0 0, .slice none 0 0, .int .i64 0, .int .i64 0, .int .i64 0, .int .i64 0, .int .i64 0] 33))
  unfold emS at *
  go_enter Try.func6, Try.ntmps6
  refine wp_seq_k (fun K0 hK0 => ?_)
  go_wp2_with fail
  refine hK0.out _ _ ?_
  obtain ⟨X, hX⟩ : ∃ X, X = w.heap.size := ⟨_, rfl⟩
  rw [← hX] at A ⊢
  have HX := hid hX
  clear hX
  generalize w.alloc (.cells #[.int .i64 0, .bool false, .string { data := #[] }, .int .i64 0, .bool false, .int .i64 0, .int .i64 0, .slice none 0 0, .slice none 0 0, .int .i64 0, .int .i64 0, .int .i64 0, .int .i64 0, .int .i64 0] 33) = V at *
  refine wp_seq_k (fun K1 hK1 => ?_)
  go_wp2_with ((go_at_call 9; refine (in_ok _ _ _ _ (by omega) (by omega)).mono ?_; rintro e w' ⟨rfl, hw'⟩; rw [hw']; clear hw' w'))
  refine hK1.out _ _ ?_
  go_wp2_with (with_reducible refine at_store 33 ?_)
  unfold Hid
  obtain ⟨m1, m2⟩ := set_whole (cs' := #[.int .i64 7, .bool false, .string { data := #[] }, .int .i64 0, .bool false, .int .i64 0, .int .i64 0, .slice none 0 0, .slice none 0 0, .int .i64 0, .int .i64 0, .int .i64 (p : Int), .int .i64 0, .int .i64 100]) (Hid.out A)
  refine wpList_store_row rfl 33 _ _ rfl X #[.int .i64 7, .bool false, .string { data := #[] }, .int .i64 0, .bool false, .int .i64 0, .int .i64 0, .slice none 0 0, .slice none 0 0, .int .i64 0, .int .i64 0, .int .i64 (p : Int), .int .i64 0, .int .i64 100] rfl rfl 33 _ (Hid.out A) (by kernel_rfl) rfl (by simp [Value.oneCell']) ?_
  have HF := hid m1
  have HB := hid ((Hid.out bN).grown m2 (Hid.out bN).size (fun k e => by cases e; rw [HX.out]; exact Nat.le_refl _))
  clear m1 m2 A bN
  generalize V.setRow X _ = V2 at *
  go_wp2_with fail
  refine bodyPost_ret (results_c1 (fn := Try.f6) rfl _ V2 X 33 _ _ rfl HF.out (by kernel_rfl) (by kernel_rfl)) rfl ?_
  exact ⟨rfl, by rw [HX.out]; exact HB.out⟩
def gcells (D : DP) (g : GS) (fa : Option Addr) (fn fc : Nat) (aa : Option Addr) (an ac : Nat) : Array Value :=
  #[.int .i64 7, .string logS, .slice fa fn fc, .int .i64 (D.P.m : Int), .int .i64 (D.P.b : Int), .int .i64 (g.st : Int), .bool g.fi, .int .i64 (g.pos : Int), .slice aa an ac, .int .i64 (g.tm : Int), .int .i64 (D.P.p : Int), .int .i64 (g.tr : Int), .int .i64 100]
theorem log_len : logS.size = 3 := rfl
structure OffR (m b p : Nat) (bs : List Nat) (n : Nat) (W0 W : World) (e : Ending) : Prop where
  ex : ∃ fa fc, e = .returned (.tuple #[.agg #[.int .i64 7, .string logS, .slice fa n fc, .int .i64 (m : Int), .int .i64 (b : Int), .int .i64 0, .bool true, .int .i64 0, .slice none 0 0, .int .i64 0, .int .i64 (p : Int), .int .i64 0, .int .i64 100], .int .i64 0]) ∧ W.ownsRow W0.heap.size 5 1 (.slice fa n fc) n (vb bs)
  blw : Below W0.heap.size W0 W
/-- an own row stays where a block of another type is stored to -/
theorem row_kept_own {W W' : World} {base e size n b : Nat} {v : Value} {xs : List Value} {cs : Array Value} {T : TypeId} (A : W.heap[b]? = some (.cells cs T)) (h : W.ownsRow base e size v n xs) (hg : W.grownBy W' (some b)) (hT : e ≠ T) : W'.ownsRow base e size v n xs :=
  h.kept hg (own_ne h A hT)
set_option maxRecDepth 1000000 in
set_option maxHeartbeats 4000000 in
theorem offer_ok (m b p : Nat) (a : Option Addr) (n c : Nat) (bs : List Nat) (w : World) (hr : Rd w a n c (vb bs)) (hn : n ≤ 65536) (h1 : 1 ≤ m ∧ m ≤ 1024) (h2 : 1 ≤ b ∧ b ≤ 50) (h3 : 1 ≤ p ∧ p ≤ 1000) :
    Calls Try.prog 5 #[.int .i64 7, .string logS, .slice a n c, .int .i64 (m : Int), .int .i64 (b : Int), .int .i64 (p : Int), .int .i64 100] w fun e w' => OffR m b p bs n w w' e := by
  have bN := hid (below_alloc w (.cells #[.int .i64 0, .string { data := #[] }, .slice none 0 0, .int .i64 0, .int .i64 0, .int .i64 0, .bool false, .int .i64 0, .slice none 0 0, .int .i64 0, .int .i64 0, .int .i64 0, .int .i64 0] 28))
  have A := hid (heap_alloc_new w (.cells #[.int .i64 0, .string { data := #[] }, .slice none 0 0, .int .i64 0, .int .i64 0, .int .i64 0, .bool false, .int .i64 0, .slice none 0 0, .int .i64 0, .int .i64 0, .int .i64 0, .int .i64 0] 28))
  have HR := hid hr
  have d1 : ¬ (65536 : Int) < (n : Int) := by omega
  have d2 : ¬ 65536 < n := by omega
  have hlog : (logS.size : Int) = 3 := by rw [log_len]; rfl
  generalize hlS : logS = lS at *
  have HlS := hid hlS
  clear hlS
  clear hr
  go_enter Try.func5, Try.ntmps5
  refine wp_seq_k (fun K0 hK0 => ?_)
  go_wp2_with fail
  refine hK0.out _ _ ?_
  have HR0 := hid (HR.out.below (below_alloc w (.cells #[.int .i64 0, .string { data := #[] }, .slice none 0 0, .int .i64 0, .int .i64 0, .int .i64 0, .bool false, .int .i64 0, .slice none 0 0, .int .i64 0, .int .i64 0, .int .i64 0, .int .i64 0] 28)))
  obtain ⟨X, hX⟩ : ∃ X, X = w.heap.size := ⟨_, rfl⟩
  rw [← hX] at A ⊢
  have HX := hid hX
  clear hX HR
  generalize w.alloc (.cells #[.int .i64 0, .string { data := #[] }, .slice none 0 0, .int .i64 0, .int .i64 0, .int .i64 0, .bool false, .int .i64 0, .slice none 0 0, .int .i64 0, .int .i64 0, .int .i64 0, .int .i64 0] 28) = V at *
  refine wp_seq_k (fun K1 hK1 => ?_)
  refine wp_block ?_
  go_wp2_with ((go_at_call 9; refine (in_ok _ _ _ _ (by omega) (by omega)).mono ?_; rintro e w' ⟨rfl, hw'⟩; rw [hw']; clear hw' w'))
  refine hK1.out _ _ ?_
  have hcl := hid (cloneB a n c bs V HR0.out (by omega))
  go_wp2_with fail
  refine hcl.out.mono ?_
  rintro e V1 ⟨fa, fc, rfl, ho, hb⟩
  have A1 := hid (row_below (Hid.out A) hb)
  have B1 := hid ((Hid.out bN).trans (hb.mono (Hid.out bN).size))
  have O1 := hid (ownsRow_mono ho (Hid.out bN).size)
  clear hb ho hcl A bN HR0
  go_wp2_with (with_reducible refine at_store 28 ?_)
  unfold Hid
  obtain ⟨m1, m2⟩ := set_whole (cs' := #[.int .i64 7, .string lS, .slice fa n fc, .int .i64 (m : Int), .int .i64 (b : Int), .int .i64 0, .bool true, .int .i64 0, .slice none 0 0, .int .i64 0, .int .i64 (p : Int), .int .i64 0, .int .i64 100]) (Hid.out A1)
  refine wpList_store_row rfl 28 _ _ rfl X #[.int .i64 7, .string lS, .slice fa n fc, .int .i64 (m : Int), .int .i64 (b : Int), .int .i64 0, .bool true, .int .i64 0, .slice none 0 0, .int .i64 0, .int .i64 (p : Int), .int .i64 0, .int .i64 100] rfl rfl 28 _ (Hid.out A1) (by kernel_rfl) rfl (by simp [Value.oneCell']) ?_
  have HF := hid m1
  have HB := hid ((Hid.out B1).grown m2 (Hid.out B1).size (fun k e => by cases e; rw [HX.out]; exact Nat.le_refl _))
  have HO := hid (row_kept_own (Hid.out A1) (Hid.out O1) m2 (by decide))
  clear m1 m2 A1 B1 O1
  generalize V1.setRow X _ = V2 at *
  go_wp2_with fail
  refine bodyPost_ret (results_c1 (fn := Try.f5) rfl _ V2 X 28 _ _ rfl HF.out (by kernel_rfl) (by kernel_rfl)) rfl ?_
  exact ⟨⟨fa, fc, by rw [HlS.out]; rfl, HO.out⟩, HB.out⟩
end Go.Proofs.Ytopmamgdfngdoaa
