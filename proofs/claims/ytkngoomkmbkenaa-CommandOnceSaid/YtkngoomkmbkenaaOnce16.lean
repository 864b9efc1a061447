/- CommandOnce, plain: when nothing is lost any more, all is let in. -/
import Derived.Test.YtkngoomkmbkenaaOnce11
import Derived.Test.YtkngoomkmbkenaaOnce15
namespace Go.Proofs.Ytkngoomkmbkenaa
set_option linter.unusedVariables false

def lz0 : Nat → Bool := fun _ => false
def rep (l : LK) : LK := { l with dr := l.r, dw := l.wt, da := l.ag, hd := true }
def quiet (ah pt pz : Nat) (l : LK) : LK := rep (comes true lz0 0 1000 (stepL ah pt pz l))
theorem Inv.quiet {ah pt pz : Nat} {l : LK} (h : Inv ah pt pz l) (hpt : 0 < pt) : Inv ah pt pz (quiet ah pt pz l) := (Inv.cms true lz0 1000 0 _ (h.step hpt).1).report
theorem quiet_way {ah pt pz : Nat} {l : LK} (h : Inv ah pt pz l) (hpt : 0 < pt) (B : Nat) (hB : l.way.length ≤ B) : (quiet ah pt pz l).way.length ≤ B + ah - 1000 := by
  obtain ⟨_, h2, _⟩ := h.step hpt
  obtain ⟨_, _, _, h3⟩ := comes_facts true lz0 1000 0 (stepL ah pt pz l)
  show (comes true lz0 0 1000 (stepL ah pt pz l)).way.length ≤ _
  rw [h3]
  omega
theorem quiet_hl {ah pt pz : Nat} {l : LK} (h : l.h.hl = true) : (quiet ah pt pz l).h.hl = true := by
  obtain ⟨h1, _⟩ := comes_facts true lz0 1000 0 (stepL ah pt pz l)
  show (comes true lz0 0 1000 (stepL ah pt pz l)).h.hl = true
  rw [h1]
  show (stepH ah pt pz l.h l.hd l.dr l.dw l.da).1.hl = true
  unfold stepH
  rw [if_pos h]
  exact h
theorem quiet_A {ah pt pz : Nat} {l : LK} (h : Inv ah pt pz l) (hpt : 0 < pt) : (quiet ah pt pz l).h.A = l.h.A := by
  obtain ⟨h1, _⟩ := comes_facts true lz0 1000 0 (stepL ah pt pz l)
  show (comes true lz0 0 1000 (stepL ah pt pz l)).h.A = _
  rw [h1]
  exact (h.step hpt).2.2.2
def arrs (l : LK) (ws : List Nat) : LK := ws.foldl (fun l b => arrive l b true) l
theorem arrs_range : ∀ (k : Nat) (l : LK), (arrs l (List.range' l.r k)).r = l.r + k
  | 0, l => rfl
  | k + 1, l => by
    rw [List.range'_succ]
    show (arrs (arrive l l.r true) (List.range' (l.r + 1) k)).r = _
    have e : (arrive l l.r true).r = l.r + 1 := by unfold arrive; rw [if_pos rfl, if_pos rfl]
    rw [← e, arrs_range k (arrive l l.r true), e]
    omega
theorem arrs_range2 (k n : Nat) (l : LK) (h : l.r = n) : (arrs l (List.range' n k)).r = n + k := by subst h; exact arrs_range k l
theorem arrs_gt : ∀ (ws : List Nat) (l : LK), (∀ i ∈ ws, l.r < i) → (arrs l ws).r = l.r
  | [], l, _ => rfl
  | b :: ws, l, h => by
    have hb := h b List.mem_cons_self
    have e : (arrive l b true).r = l.r := by unfold arrive; rw [if_neg (by omega), if_pos hb]
    show (arrs (arrive l b true) ws).r = _
    rw [arrs_gt ws _ (fun i hi => by rw [e]; exact h i (List.mem_cons_of_mem _ hi)), e]
theorem arrs_append (l : LK) (a b : List Nat) : arrs l (a ++ b) = arrs (arrs l a) b := by unfold arrs; rw [List.foldl_append]
theorem arrs_way (ws v : List Nat) : ∀ (l : LK), (arrs { l with way := v } ws).r = (arrs l ws).r := by
  induction ws with
  | nil => intro l; rfl
  | cons b ws ih =>
    intro l
    show (arrs (arrive { l with way := v } b true) ws).r = (arrs (arrive l b true) ws).r
    have e : arrive { l with way := v } b true = { arrive l b true with way := v } := by
      unfold arrive
      dsimp only
      split
      · rfl
      · split <;> rfl
    rw [e]
    exact ih _
theorem comes_arrs : ∀ (f i : Nat) (l : LK), l.way.length ≤ f → (comes true lz0 i f l).r = (arrs l l.way).r
  | 0, i, l, h => by
    have : l.way = [] := List.eq_nil_of_length_eq_zero (by omega)
    rw [this]
    rfl
  | f + 1, i, l, h => by
    unfold comes
    cases hw : l.way with
    | nil => rfl
    | cons b ws =>
      dsimp only
      rw [if_neg (fun h : lz0 i = true => Bool.noConfusion h)]
      have h2 : (arrive { l with way := ws } b true).way = ws := (arrive_facts _ _ _).2.1
      rw [comes_arrs f (i + 1) _ (by rw [h2]; rw [hw] at h; simpa using h), h2]
      show _ = (arrs (arrive l b true) ws).r
      rw [← arrs_way ws ws (arrive l b true)]
      congr 1
      have e : arrive { l with way := ws } b true = { arrive l b true with way := ws } := by
        unfold arrive
        dsimp only
        split
        · rfl
        · split <;> rfl
      rw [e]
/-- what is reported is what is so -/
structure Syn (l : LK) : Prop where
  hd : l.hd = true
  dr : l.dr = l.r
  dw : l.dw = l.wt
  way : l.way = []
def V (pt : Nat) (l : LK) : Nat := if l.r < l.h.N then 300 + (if l.h.b = l.r then pt - l.h.tm else pt) else 2 * (l.h.A - l.h.N) + (if l.h.b = l.h.N then 0 else 1)
theorem V_le {ah pt pz : Nat} {l : LK} (h : Inv ah pt pz l) (hp : pt ≤ 12) : V pt l ≤ 312 := by
  have := h.A1
  unfold V
  split
  · split <;> omega
  · split <;> omega
theorem quiet_dec {ah pt pz : Nat} {l : LK} (h : Inv ah pt pz l) (hs : Syn l) (hpt : 0 < pt) (hah : 0 < ah) (ha : ah ≤ 40) (hl : l.h.hl = false) :
    Syn (quiet ah pt pz l) ∧ ((quiet ah pt pz l).h.hl = true ∨ V pt (quiet ah pt pz l) < V pt l ∨ (V pt l = 0 ∧ V pt (quiet ah pt pz l) = 0)) := by
  have hq := h.quiet hpt
  have hwl := quiet_way h hpt 0 (by rw [hs.way]; exact Nat.le_refl _)
  have hw0 : (quiet ah pt pz l).way = [] := List.eq_nil_of_length_eq_zero (by omega)
  refine ⟨⟨rfl, rfl, rfl, hw0⟩, ?_⟩
  obtain ⟨c1, _, _, _⟩ := comes_facts true lz0 1000 0 (stepL ah pt pz l)
  have hst := h.step hpt
  have hr := comes_arrs 1000 0 (stepL ah pt pz l) (by have := hst.2.1; rw [hs.way] at this; simp at this; omega)
  have hway : (stepL ah pt pz l).way = (stepH ah pt pz l.h l.hd l.dr l.dw l.da).2 := by show l.way ++ _ = _; rw [hs.way]; rfl
  have hN1 : (quiet ah pt pz l).h = (stepH ah pt pz l.h l.hd l.dr l.dw l.da).1 := c1
  have hr1 : (quiet ah pt pz l).r = (arrs (stepL ah pt pz l) (stepH ah pt pz l.h l.hd l.dr l.dw l.da).2).r := by
    show (comes true lz0 0 1000 (stepL ah pt pz l)).r = _
    rw [hr, hway]
  have hr0 : (stepL ah pt pz l).r = l.r := rfl
  -- the step, computed
  obtain ⟨b1, b2, b3, b4, b5, b6, b7, b8, b9, b10, b11, b12, b13, b14, b15⟩ := h
  obtain ⟨x2, hx2⟩ : ∃ x2, x2 = midH pz l.h true l.r := ⟨_, rfl⟩
  have e2 : x2.b = l.r ∧ x2.N = l.h.N ∧ x2.A = l.h.A ∧ (x2.tm = if l.h.b = l.r then l.h.tm else 0) := by
    rw [hx2]
    unfold midH hearH
    rw [if_pos rfl]
    dsimp only
    by_cases hb : l.h.b < l.r
    · rw [if_pos hb, if_neg (by omega)]
      exact ⟨rfl, rfl, rfl, rfl⟩
    · rw [if_neg hb, if_pos (by omega)]
      exact ⟨by show l.h.b = l.r; omega, rfl, rfl, rfl⟩
  obtain ⟨e21, e22, e23, e24⟩ := e2
  have hstep : stepH ah pt pz l.h l.hd l.dr l.dw l.da = (if ((lateH pt x2 (true && l.da && !l.wt && x2.si == pz)).go && !(true && l.wt)) = true then ((moreH ah (lateH pt x2 (true && l.da && !l.wt && x2.si == pz)).x).1, (lateH pt x2 (true && l.da && !l.wt && x2.si == pz)).up ++ (moreH ah (lateH pt x2 (true && l.da && !l.wt && x2.si == pz)).x).2) else ((lateH pt x2 (true && l.da && !l.wt && x2.si == pz)).x, (lateH pt x2 (true && l.da && !l.wt && x2.si == pz)).up)) := by
    unfold stepH
    rw [if_neg (by rw [hl]; decide), hs.hd, hs.dr, hs.dw, ← hx2]
  generalize (true && l.da && !l.wt && x2.si == pz) = wi at hstep
  rw [hstep] at hN1 hr1
  clear hstep hx2 hq hwl c1 hst hr hway
  unfold V
  rw [hN1, hr1]
  by_cases hrN : l.r < l.h.N
  · have hbN : ¬ x2.b = x2.N := by rw [e21, e22]; omega
    rw [if_pos hrN]
    by_cases hc : wi = false ∧ x2.tm + 1 < pt
    · have hlt : lateH pt x2 wi = ⟨{ x2 with tm := x2.tm + 1 }, [], true⟩ := by unfold lateH; rw [if_neg hbN, if_pos hc]
      rw [hlt]
      refine .inr (.inl ?_)
      have hdec : 300 + (pt - (x2.tm + 1)) < 300 + (if l.h.b = l.r then pt - l.h.tm else pt) := by
        by_cases hb : l.h.b = l.r
        · rw [if_pos hb] at e24 ⊢
          omega
        · rw [if_neg hb] at e24 ⊢
          omega
      by_cases hw : (true && !(true && l.wt)) = true
      · rw [if_pos hw]
        have hgt : (arrs (stepL ah pt pz l) ([] ++ (moreH ah { x2 with tm := x2.tm + 1 }).2)).r = l.r := by
          rw [List.nil_append, arrs_gt _ _ (fun i hi => ?_)]
          · rfl
          · have hi' : i ∈ List.range' x2.N (nMore ah { x2 with tm := x2.tm + 1 }) := hi
            rw [List.mem_range'_1] at hi'
            rw [hr0]
            omega
        rw [hgt]
        show (if l.r < x2.N + _ then 300 + (if x2.b = l.r then pt - (x2.tm + 1) else pt) else _) < _
        rw [if_pos (by omega), if_pos e21]
        exact hdec
      · rw [if_neg hw]
        show (if l.r < x2.N then 300 + (if x2.b = l.r then pt - (x2.tm + 1) else pt) else _) < _
        rw [if_pos (by omega), if_pos e21]
        exact hdec
    · by_cases ht : x2.tr = 100
      · have hlt : lateH pt x2 wi = ⟨{ x2 with tm := 0, si := 0, hl := true }, [], false⟩ := by unfold lateH; rw [if_neg hbN, if_neg hc, if_pos ht]
        rw [hlt]
        left
        rfl
      · have hlt : lateH pt x2 wi = ⟨{ x2 with tm := 0, si := 0, tr := x2.tr + 1 }, List.range' x2.b (x2.N - x2.b), true⟩ := by unfold lateH; rw [if_neg hbN, if_neg hc, if_neg ht]
        rw [hlt]
        refine .inr (.inl ?_)
        have hfst : (arrs (stepL ah pt pz l) (List.range' x2.b (x2.N - x2.b))).r = l.h.N := by
          rw [e21, show List.range' l.r (x2.N - l.r) = List.range' (stepL ah pt pz l).r (x2.N - l.r) from rfl, arrs_range, hr0]
          omega
        by_cases hw : (true && !(true && l.wt)) = true
        · rw [if_pos hw]
          have hall : (arrs (stepL ah pt pz l) (List.range' x2.b (x2.N - x2.b) ++ (moreH ah { x2 with tm := 0, si := 0, tr := x2.tr + 1 }).2)).r = x2.N + nMore ah { x2 with tm := 0, si := 0, tr := x2.tr + 1 } := by
            rw [arrs_append]
            show (arrs _ (List.range' x2.N _)).r = _
            exact arrs_range2 _ _ _ (by rw [hfst, e22])
          rw [hall]
          show (if x2.N + nMore ah { x2 with tm := 0, si := 0, tr := x2.tr + 1 } < x2.N + nMore ah { x2 with tm := 0, si := 0, tr := x2.tr + 1 } then _ else 2 * (x2.A - (x2.N + nMore ah { x2 with tm := 0, si := 0, tr := x2.tr + 1 })) + (if x2.b = x2.N + nMore ah { x2 with tm := 0, si := 0, tr := x2.tr + 1 } then 0 else 1)) < _
          rw [if_neg (Nat.lt_irrefl _)]
          split <;> omega
        · rw [if_neg hw, hfst]
          show (if l.h.N < x2.N then _ else 2 * (x2.A - x2.N) + (if x2.b = x2.N then 0 else 1)) < _
          rw [if_neg (by omega)]
          split <;> omega
  · have hbN : x2.b = x2.N := by rw [e21, e22]; omega
    have hlt : lateH pt x2 wi = ⟨{ x2 with tm := 0 }, [], true⟩ := by unfold lateH; rw [if_pos hbN]
    have hwt : l.wt = false := by
      cases hw : l.wt with
      | false => rfl
      | true => exact absurd (b11 hw) hrN
    rw [hlt, hwt, if_neg hrN]
    rw [if_pos (by rfl)]
    have hall : (arrs (stepL ah pt pz l) ([] ++ (moreH ah { x2 with tm := 0 }).2)).r = x2.N + nMore ah { x2 with tm := 0 } := by
      rw [List.nil_append]
      show (arrs _ (List.range' x2.N _)).r = _
      exact arrs_range2 _ _ _ (by rw [hr0]; omega)
    rw [hall]
    have hn : nMore ah { x2 with tm := 0 } = min (ah - (x2.N - x2.b)) (x2.A - x2.N) := rfl
    right
    show (if x2.N + nMore ah { x2 with tm := 0 } < x2.N + nMore ah { x2 with tm := 0 } then _ else 2 * (x2.A - (x2.N + nMore ah { x2 with tm := 0 })) + (if x2.b = x2.N + nMore ah { x2 with tm := 0 } then 0 else 1)) < _ ∨ _ ∧ (if x2.N + nMore ah { x2 with tm := 0 } < x2.N + nMore ah { x2 with tm := 0 } then _ else 2 * (x2.A - (x2.N + nMore ah { x2 with tm := 0 })) + (if x2.b = x2.N + nMore ah { x2 with tm := 0 } then 0 else 1)) = 0
    rw [if_neg (Nat.lt_irrefl _)]
    clear hall hN1 hr1
    generalize nMore ah { x2 with tm := 0 } = n at *
    have hn2 : n = min ah (l.h.A - l.h.N) := by rw [hn, hbN, e22, e23, Nat.sub_self, Nat.sub_zero]
    by_cases hA : l.h.N < l.h.A
    · left
      have hn1 : 1 ≤ n := by rw [hn2]; omega
      split <;> split <;> omega
    · have hn0 : n = 0 := by rw [hn2]; omega
      rw [if_pos (show x2.b = x2.N + n by omega)]
      by_cases hb : l.h.b = l.h.N
      · right
        rw [if_pos hb]
        omega
      · left
        rw [if_neg hb]
        omega
def quiets (ah pt pz : Nat) : Nat → LK → LK
  | 0, l => l
  | t + 1, l => quiets ah pt pz t (quiet ah pt pz l)
theorem quiets_inv {ah pt pz : Nat} (hpt : 0 < pt) : ∀ (t : Nat) (l : LK), Inv ah pt pz l → Inv ah pt pz (quiets ah pt pz t l) ∧ (quiets ah pt pz t l).h.A = l.h.A
  | 0, l, h => ⟨h, rfl⟩
  | t + 1, l, h => by
    obtain ⟨h1, h2⟩ := quiets_inv hpt t _ (h.quiet hpt)
    exact ⟨h1, h2.trans (quiet_A h hpt)⟩
theorem quiets_hl {ah pt pz : Nat} : ∀ (t : Nat) (l : LK), l.h.hl = true → (quiets ah pt pz t l).h.hl = true
  | 0, l, h => h
  | t + 1, l, h => quiets_hl t _ (quiet_hl h)
theorem quiets_add (ah pt pz : Nat) : ∀ (s t : Nat) (l : LK), quiets ah pt pz (s + t) l = quiets ah pt pz t (quiets ah pt pz s l)
  | 0, t, l => by rw [Nat.zero_add]; rfl
  | s + 1, t, l => by
    rw [show s + 1 + t = (s + t) + 1 by omega]
    exact quiets_add ah pt pz s t _
theorem quiets_succ (ah pt pz t : Nat) (l : LK) : quiets ah pt pz (t + 1) l = quiet ah pt pz (quiets ah pt pz t l) := quiets_add ah pt pz t 1 l
theorem live_syn {ah pt pz : Nat} (hpt : 0 < pt) (hah : 0 < ah) (ha : ah ≤ 40) : ∀ (t : Nat) (l : LK), Inv ah pt pz l → Syn l → V pt l ≤ t → (quiets ah pt pz t l).h.hl = true ∨ V pt (quiets ah pt pz t l) = 0
  | 0, l, _, _, hv => .inr (Nat.le_zero.1 hv)
  | t + 1, l, h, hs, hv => by
    cases hl : l.h.hl with
    | true => exact .inl (quiets_hl _ _ hl)
    | false =>
      obtain ⟨h1, h2⟩ := quiet_dec h hs hpt hah ha hl
      rcases h2 with h2 | h2 | ⟨h2, h3⟩
      · exact .inl (quiets_hl t _ h2)
      · exact live_syn hpt hah ha t _ (h.quiet hpt) h1 (by omega)
      · exact live_syn hpt hah ha t _ (h.quiet hpt) h1 (by omega)
theorem drain {ah pt pz : Nat} (hpt : 0 < pt) (ha : ah ≤ 40) : ∀ (t : Nat) (l : LK), Inv ah pt pz l → l.way.length ≤ 960 * t → 0 < t → Syn (quiets ah pt pz t l)
  | 0, l, _, _, h => absurd h (Nat.lt_irrefl 0)
  | t + 1, l, h, hw, _ => by
    have h1 := quiet_way h hpt _ hw
    cases t with
    | zero =>
      refine ⟨rfl, rfl, rfl, List.eq_nil_of_length_eq_zero ?_⟩
      show (quiet ah pt pz l).way.length = 0
      omega
    | succ t => exact drain hpt ha (t + 1) _ (h.quiet hpt) (by omega) (Nat.succ_pos _)
/-- all that was asked for is let in, and known to be -/
theorem live {ah pt pz : Nat} {l : LK} (h : Inv ah pt pz l) (hpt : 0 < pt) (hp : pt ≤ 12) (hah : 0 < ah) (ha : ah ≤ 40) (hw : l.way.length ≤ 12000) (T : Nat) (hT : 400 ≤ T) : (quiets ah pt pz T l).h.hl = true ∨ ((quiets ah pt pz T l).r = l.h.A ∧ (quiets ah pt pz T l).h.b = l.h.A ∧ (quiets ah pt pz T l).h.N = l.h.A) := by
  obtain ⟨s, t, hs, ht, rfl⟩ : ∃ s t, 13 ≤ s ∧ 312 ≤ t ∧ T = s + t := ⟨50, T - 50, by omega, by omega, by omega⟩
  have h1 := drain hpt ha s l h (by omega) (by omega)
  obtain ⟨h2, h3⟩ := quiets_inv hpt s l h
  have h4 := live_syn hpt hah ha t _ h2 h1 (by have := V_le h2 hp; omega)
  rw [← quiets_add] at h4
  rcases h4 with h4 | h4
  · exact .inl h4
  · obtain ⟨h5, h6⟩ := quiets_inv hpt (s + t) l h
    right
    have h7 := h5.br
    have h8 := h5.rN
    have h9 := h5.NA
    unfold V at h4
    split at h4
    · omega
    · split at h4
      · omega
      · omega
end Go.Proofs.Ytkngoomkmbkenaa
/- A link in memory, and the plain link it stands for. -/
namespace Go.Proofs.Ytkngoomkmbkenaa
set_option linter.unusedVariables false
open Go.RowKit

def gateL (l : LK) : Gt := ⟨3, (l.r : Int), 127, false, l.wt, l.ag, 0⟩
structure LP (ah pt pz : Nat) (s : LS) (l : LK) : Prop where
  H : WL ah pt pz l.h s.x
  W : conts s.Rw = cmds l.way
  O : conts s.Ro = cmds l.old
  g : s.g = gateL l
  d : s.ds = List.range l.r
  A : s.A = l.h.A
  st : ∃ er, StO s.st l.dr l.dw l.da er ∧ (l.hd = true → er = 0)
  hd : s.hd = l.hd
theorem gateL_ok {l : LK} (h : l.r ≤ 100) : (gateL l).ok := ⟨⟨by show (0 : Int) ≤ 3; decide, by show (3 : Int) ≤ 1023; decide⟩, ⟨by show (1 : Int) ≤ 127; decide, by show (127 : Int) ≤ 127; decide⟩, ⟨by show (0 : Int) ≤ (l.r : Int); omega, by show (l.r : Int) ≤ 255; omega⟩, ⟨by show (0 : Int) ≤ 0; decide, by show (0 : Int) ≤ 3; decide⟩⟩
/-- what the gate says, and what the link becomes but for what is done -/
def errA (l : LK) (i : Nat) (room : Bool) : Int := if i = l.r then (if room = true then 0 else 12) else if l.r < i then 7 else 13
theorem numG_arr (l : LK) (i : Nat) (room : Bool) (hi : i ≤ 100) (hr : l.r ≤ 100) : numG (gateL l) (i : Int) room = (gateL (arrive l i room), decide (i = l.r ∧ room = true), errA l i room) := by
  unfold numG arrive errA
  show (if (false : Bool) = true then _ else _) = _
  rw [if_neg (fun h => Bool.noConfusion h)]
  show (if ((i : Int) - (l.r : Int)) % 256 = 0 then _ else _) = _
  by_cases e : i = l.r
  · subst e
    rw [if_pos (by omega), if_pos rfl, if_pos rfl]
    cases room with
    | true =>
      rw [if_pos rfl, if_pos rfl, if_pos rfl]
      have e1 : ((gateL l).nx + 1) % 256 = ((l.r + 1 : Nat) : Int) := by show ((l.r : Int) + 1) % 256 = _; omega
      rw [e1, decide_eq_true ⟨rfl, rfl⟩]
      rfl
    | false =>
      rw [if_neg (fun h => Bool.noConfusion h), if_neg (fun h => Bool.noConfusion h), if_neg (fun h => Bool.noConfusion h)]
      rw [decide_eq_false (fun h => Bool.noConfusion h.2)]
      rfl
  · rw [if_neg (by omega), if_neg e, if_neg e]
    rw [decide_eq_false (fun h => e h.1)]
    by_cases e2 : l.r < i
    · rw [if_pos (by show ((i : Int) - (l.r : Int)) % 256 < 127; omega), if_pos e2, if_pos e2]
      rfl
    · rw [if_neg (by show ¬ ((i : Int) - (l.r : Int)) % 256 < 127; omega), if_pos (by show 256 - ((i : Int) - (l.r : Int)) % 256 ≤ 127; omega), if_neg e2, if_neg e2]
theorem LP.dn {ah pt pz : Nat} {s : LS} {l : LK} {W : World} {B : Nat} (h : LP ah pt pz s l) (hr : LR W B s) : s.dn = l.r := by
  have h1 := hr.dO.1
  rw [vb_len, h.d, List.length_range] at h1
  exact h1.symm
theorem LP.wn {ah pt pz : Nat} {s : LS} {l : LK} {W : World} {B : Nat} (h : LP ah pt pz s l) (hr : LR W B s) : s.wn = l.way.length := by
  have h1 := hr.wo.1
  rw [rcs_len] at h1
  have h2 := congrArg List.length h.W
  unfold conts cmds at h2
  rw [List.length_map, List.length_map] at h2
  omega
theorem LP.on {ah pt pz : Nat} {s : LS} {l : LK} {W : World} {B : Nat} (h : LP ah pt pz s l) (hr : LR W B s) : s.on = l.old.length := by
  have h1 := hr.oo.1
  rw [rcs_len] at h1
  have h2 := congrArg List.length h.O
  unfold conts cmds at h2
  rw [List.length_map, List.length_map] at h2
  omega
theorem cmds_pos {R : List RB} {L : List Nat} (h : conts R = cmds L) : ∀ r ∈ R, 0 < r.2.length := fun r hr => by
  have h1 : r.2 ∈ conts R := List.mem_map.2 ⟨r, hr, rfl⟩
  rw [h] at h1
  obtain ⟨i, _, h2⟩ := List.mem_map.1 h1
  rw [← h2]
  unfold cmdB
  rw [encO_len]
  omega
theorem cmds_at {R : List RB} {L : List Nat} (h : conts R = cmds L) {k : Nat} {r : RB} (hr : R[k]? = some r) : ∃ i, L[k]? = some i ∧ r.2 = cmdB i := by
  have h1 : (conts R)[k]? = some r.2 := by unfold conts; rw [List.getElem?_map, hr]; rfl
  rw [h] at h1
  unfold cmds at h1
  rw [List.getElem?_map] at h1
  cases e : L[k]? with
  | none => rw [e] at h1; cases h1
  | some i => rw [e] at h1; exact ⟨i, rfl, (Option.some.inj h1).symm⟩
end Go.Proofs.Ytkngoomkmbkenaa
/- A tick, in plain words. -/
namespace Go.Proofs.Ytkngoomkmbkenaa
set_option linter.unusedVariables false

/-- what a post says -/
structure PO where
  ask : Int
  come : Int
  lose : Int
  full : Bool
  deaf : Bool
  again : Int
def PO.cells (p : PO) : Array Value := #[.int .i64 p.ask, .int .i64 p.come, .int .i64 p.lose, .bool p.full, .bool p.deaf, .int .i64 p.again]
def asksL (k : Nat) (l : LK) : LK := { l with h := { l.h with A := min 100 (l.h.A + k) } }
def againL (ag : Int) (l : LK) : LK := if 0 ≤ ag ∧ 0 < l.old.length then arrive l (l.old.getD (ag.toNat % l.old.length) 0) true else l
def sureL (deaf : Bool) (l : LK) : LK := if deaf = true then l else rep l
def tickL (ah pt pz k : Nat) (p : PO) (lz : Nat → Bool) (l : LK) : LK := sureL p.deaf (comes (!p.full) lz 0 p.come.toNat (againL p.again (stepL ah pt pz (asksL k l))))
theorem Inv.asksL {ah pt pz : Nat} {l : LK} (h : Inv ah pt pz l) (k : Nat) : Inv ah pt pz (asksL k l) := by
  obtain ⟨h1, h2, h3, h4, h5, h6, h7, h8, h9, h10, h11, h12, h13, h14, h15⟩ := h
  exact ⟨h1, h2, by show l.h.N ≤ min 100 (l.h.A + k); omega, by show min 100 (l.h.A + k) ≤ 100; omega, h5, h6, h7, h8, h9, h10, h11, h12, h13, h14, fun h => by have := h15 h; show 0 < min 100 (l.h.A + k); omega⟩
theorem asksL_0 {ah pt pz : Nat} {l : LK} (h : Inv ah pt pz l) : asksL 0 l = l := by
  have h1 := h.A1
  unfold Go.Proofs.Ytkngoomkmbkenaa.asksL
  rw [Nat.add_zero, Nat.min_eq_right h1]
theorem asksL_full {ah pt pz : Nat} {l : LK} (h : Inv ah pt pz l) (i k : Nat) (hik : i ≤ k) (hf : i = k ∨ (asksL i l).h.A = 100) : asksL i l = asksL k l := by
  rcases hf with rfl | hf
  · rfl
  · have h1 := h.A1
    have h2 : min 100 (l.h.A + i) = 100 := hf
    unfold Go.Proofs.Ytkngoomkmbkenaa.asksL
    rw [show min 100 (l.h.A + i) = min 100 (l.h.A + k) by omega]
theorem asksL_succ {l : LK} (i : Nat) (hA : (asksL i l).h.A < 100) : asksL (i + 1) l = { asksL i l with h := { (asksL i l).h with A := (asksL i l).h.A + 1 } } := by
  have h2 : min 100 (l.h.A + i) < 100 := hA
  unfold Go.Proofs.Ytkngoomkmbkenaa.asksL
  dsimp only
  rw [show min 100 (l.h.A + (i + 1)) = min 100 (l.h.A + i) + 1 by omega]
theorem Inv.againL {ah pt pz : Nat} {l : LK} (h : Inv ah pt pz l) (ag : Int) : Inv ah pt pz (againL ag l) ∧ (againL ag l).way = l.way ∧ (againL ag l).old = l.old ∧ (againL ag l).h = l.h := by
  unfold Go.Proofs.Ytkngoomkmbkenaa.againL
  split
  · rename_i hc
    obtain ⟨a1, a2, a3, _⟩ := arrive_facts l (l.old.getD (ag.toNat % l.old.length) 0) true
    refine ⟨h.arr ?_ true, a2, a3, a1⟩
    have hlt := Nat.mod_lt ag.toNat hc.2
    have hg : l.old.getD (ag.toNat % l.old.length) 0 = l.old[ag.toNat % l.old.length] := by rw [List.getD_eq_getElem?_getD, List.getElem?_eq_getElem hlt]; rfl
    rw [hg]
    exact h.old _ (List.getElem_mem hlt)
  · exact ⟨h, rfl, rfl, rfl⟩
theorem Inv.sureL {ah pt pz : Nat} {l : LK} (h : Inv ah pt pz l) (deaf : Bool) : Inv ah pt pz (sureL deaf l) ∧ (sureL deaf l).way = l.way ∧ (sureL deaf l).old = l.old ∧ (sureL deaf l).h = l.h := by
  unfold Go.Proofs.Ytkngoomkmbkenaa.sureL
  split
  · exact ⟨h, rfl, rfl, rfl⟩
  · exact ⟨h.report, rfl, rfl, rfl⟩
theorem Inv.tickL {ah pt pz k : Nat} {l : LK} (h : Inv ah pt pz l) (hpt : 0 < pt) (p : PO) (lz : Nat → Bool) : Inv ah pt pz (tickL ah pt pz k p lz l) ∧ (tickL ah pt pz k p lz l).way.length ≤ l.way.length + ah ∧ (tickL ah pt pz k p lz l).old.length ≤ l.old.length + ah := by
  unfold Go.Proofs.Ytkngoomkmbkenaa.tickL
  obtain ⟨s1, s2, s3, s4⟩ := (h.asksL k).step hpt
  obtain ⟨g1, g2, g3, g4⟩ := s1.againL p.again
  have c1 := Inv.cms (!p.full) lz p.come.toNat 0 _ g1
  obtain ⟨d1, d2, d3, d4⟩ := comes_facts (!p.full) lz p.come.toNat 0 (Go.Proofs.Ytkngoomkmbkenaa.againL p.again (stepL ah pt pz (Go.Proofs.Ytkngoomkmbkenaa.asksL k l)))
  obtain ⟨e1, e2, e3, e4⟩ := c1.sureL p.deaf
  refine ⟨e1, ?_, ?_⟩
  · rw [e2, d4, g2]
    have : (Go.Proofs.Ytkngoomkmbkenaa.asksL k l).way = l.way := rfl
    rw [this] at s2
    omega
  · rw [e3, d2, g3]
    exact s3
theorem tickL_quiet {ah pt pz : Nat} {l : LK} (h : Inv ah pt pz l) (lz : Nat → Bool) (hlz : ∀ i, lz i = false) : tickL ah pt pz 0 ⟨0, 1000, 0, false, false, -1⟩ lz l = quiet ah pt pz l := by
  have e : lz = lz0 := funext hlz
  subst e
  unfold tickL quiet sureL againL
  rw [asksL_0 h]
  rfl
end Go.Proofs.Ytkngoomkmbkenaa
