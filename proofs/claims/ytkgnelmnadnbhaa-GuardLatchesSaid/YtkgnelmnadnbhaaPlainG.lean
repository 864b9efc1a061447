/- GuardLatches in plain words: what the law counts by itself is what Step keeps. -/
import Derived.Test.YtkgnelmnadnbhaaStepG
namespace Go.Proofs.Ytkgnelmnadnbhaa
set_option linter.unusedVariables false
open Go.RowKit

/-- the ages of the trips that count, at tick T -/
def agesT (win T : Nat) (trips : List Nat) : List Nat := (trips.map (fun t => T - t)).filter (fun a => decide (a < win))
def Sfx (A st : List Nat) : Prop := ∃ p, A = p ++ st ∧ (p = [] ∨ st.length = 100)
theorem agesT_nil (win T : Nat) : agesT win T [] = [] := rfl
theorem agesT_snoc (win T : Nat) (l : List Nat) (hw : 1 ≤ win) : agesT win T (l ++ [T]) = agesT win T l ++ [0] := by
  unfold agesT
  rw [List.map_append, List.filter_append]
  congr 1
  simp
  omega
theorem agesT_step (win T : Nat) (trips : List Nat) (h : ∀ t ∈ trips, t ≤ T) : agesT win (T + 1) trips = kp win ((agesT win T trips).map (· + 1)) := by
  induction trips with
  | nil => rfl
  | cons t l ih =>
    have ih := ih (fun x hx => h x (List.mem_cons_of_mem _ hx))
    have ht := h t (List.mem_cons_self ..)
    have e : ∀ U, agesT win U (t :: l) = if U - t < win then (U - t) :: agesT win U l else agesT win U l := by
      intro U
      unfold agesT
      rw [List.map_cons, List.filter_cons]
      by_cases h1 : U - t < win <;> simp [h1]
    rw [e, e, ih]
    by_cases h1 : T - t < win
    · rw [if_pos h1, List.map_cons]
      unfold kp
      rw [List.filter_cons]
      by_cases h2 : T - t + 1 = win
      · rw [if_neg (by omega)]
        simp [h2]
      · rw [if_pos (by omega)]
        have e2 : T + 1 - t = T - t + 1 := by omega
        simp [h2, e2]
    · rw [if_neg h1, if_neg (by omega)]
theorem ages_lt (win T : Nat) (trips : List Nat) : ∀ a ∈ agesT win T trips, a < win := by
  intro a ha
  unfold agesT at ha
  simpa using (List.mem_filter.1 ha).2
theorem ages_ord (win T : Nat) (trips : List Nat) (h : trips.Pairwise (· ≤ ·)) : (agesT win T trips).Pairwise (fun a b => b ≤ a) := by
  unfold agesT
  refine List.Pairwise.filter _ ?_
  rw [List.pairwise_map]
  exact h.imp (fun h => by omega)
theorem kp_map (win : Nat) (a b : List Nat) : kp win ((a ++ b).map (· + 1)) = kp win (a.map (· + 1)) ++ kp win (b.map (· + 1)) := by
  unfold kp
  rw [List.map_append, List.filter_append]
theorem kp_allM (win : Nat) : ∀ l : List Nat, (∀ x ∈ l, x + 1 ≠ win) → kp win (l.map (· + 1)) = l.map (· + 1)
  | [], _ => rfl
  | a :: l, h => by
    have h0 := h a (List.mem_cons_self ..)
    have ih := kp_allM win l (fun x hx => h x (List.mem_cons_of_mem _ hx))
    unfold kp at *
    rw [List.map_cons, List.filter_cons, ih]
    simp [h0]
theorem kp_none (win : Nat) : ∀ l : List Nat, (∀ x ∈ l, x + 1 = win) → kp win (l.map (· + 1)) = []
  | [], _ => rfl
  | a :: l, h => by
    have h0 := h a (List.mem_cons_self ..)
    have ih := kp_none win l (fun x hx => h x (List.mem_cons_of_mem _ hx))
    unfold kp at *
    rw [List.map_cons, List.filter_cons, ih]
    simp [h0]
/-- a tick goes by -/
theorem sfx_age (win : Nat) (A st : List Nat) (h : Sfx A st) (ho : A.Pairwise (fun a b => b ≤ a)) (hl : ∀ a ∈ A, a < win) : Sfx (kp win (A.map (· + 1))) (ageT win st) := by
  obtain ⟨p, rfl, hp⟩ := h
  unfold ageT
  rw [kp_map]
  refine ⟨_, rfl, ?_⟩
  rcases hp with rfl | hp
  · exact .inl rfl
  · by_cases hx : ∃ x ∈ st, x + 1 = win
    · obtain ⟨x, hx, hxw⟩ := hx
      left
      refine kp_none win p (fun a ha => ?_)
      have h1 := hl a (List.mem_append_left _ ha)
      have h2 := (List.pairwise_append.1 ho).2.2 a ha x hx
      omega
    · right
      rw [kp_allM win st (fun x (h1 : x ∈ st) (h2 : x + 1 = win) => hx ⟨x, h1, h2⟩), List.length_map, hp]
/-- a trip more -/
theorem sfx_trip (A st : List Nat) (h : Sfx A st) (hl : st.length ≤ 100) : Sfx (A ++ [0]) (cut100 (st ++ [0])) := by
  obtain ⟨p, rfl, hp⟩ := h
  unfold cut100
  rw [List.length_append]
  rcases Nat.lt_or_ge st.length 100 with h1 | h1
  · have e : st.length + [0].length - 100 = 0 := by simp; omega
    rw [e, List.drop_zero]
    refine ⟨p, by rw [List.append_assoc], .inl ?_⟩
    rcases hp with h | h
    · exact h
    · omega
  · have e : st.length + [0].length - 100 = 1 := by simp; omega
    rw [e]
    cases st with
    | nil => simp at h1
    | cons a st =>
      refine ⟨p ++ [a], by simp, .inr ?_⟩
      simp
      simp at hl h1
      omega
theorem sfx_most (A st : List Nat) (h : Sfx A st) (most : Nat) (hm : most ≤ 6) : (most ≤ st.length) ↔ (most ≤ A.length) := by
  obtain ⟨p, rfl, hp⟩ := h
  rw [List.length_append]
  rcases hp with rfl | hp
  · simp
  · omega

/-- what the law keeps inside a tick -/
structure LW where
  long : List Nat
  trips : List Nat
  why : Int
  wrong : Bool
def xk (ms : List Mon) (vals : List Int) (u : LW) (k : Nat) : Nat := if isIn (vals.getD (mAt ms k).of_ 0) = true then 0 else nth u.long k + 1
def lw1 (ms : List Mon) (vals : List Int) (i : Nat) (u : LW) (k : Nat) : LW :=
  { long := u.long.set k (xk ms vals u k), trips := if xk ms vals u k = (mAt ms k).fr then u.trips ++ [i] else u.trips,
    why := if xk ms vals u k = (mAt ms k).fr ∧ (mAt ms k).tier = 3 ∧ u.why = -1 then (k : Int) else u.why, wrong := u.wrong || decide ((mAt ms k).fr ≤ xk ms vals u k) }
def lwTo (ms : List Mon) (vals : List Int) (i : Nat) (u : LW) : Nat → LW
  | 0 => u
  | k + 1 => lw1 ms vals i (lwTo ms vals i u k) k

theorem fb_snoc (ms : List Mon) (x : Nat) : ∀ l : List Nat, fb ms (l ++ [x]) = if fb ms l ≠ -1 then fb ms l else if (mAt ms x).tier = 3 then (x : Int) else -1
  | [] => by simp [fb]
  | a :: l => by
    have ih := fb_snoc ms x l
    rw [List.cons_append]
    unfold fb
    by_cases h : (mAt ms a).tier = 3
    · rw [if_pos h, if_pos h, if_pos (by omega)]
    · rw [if_neg h, if_neg h, ih]

/-- inside the loop over the monitors -/
structure K4 (ms : List Mon) (n i win j : Nat) (u : LW) (s : St) : Prop where
  bl : s.bad.length = n
  tl : s.trp.length = n
  ll : u.long.length = n
  bad : ∀ k, k < n → nth s.bad k = min (nth u.long k) (mAt ms k).fr
  trp : ∀ k, k < n → s.trp.getD k false = decide ((mAt ms k).fr ≤ nth u.long k)
  sx : Sfx (agesT win i u.trips) s.trips
  pl : s.trips.length ≤ 100
  ord : u.trips.Pairwise (· ≤ ·)
  le : ∀ t ∈ u.trips, t ≤ i
  why : fb ms s.now = u.why
  wr : u.wrong = true ↔ ∃ k, k < j ∧ (mAt ms k).fr ≤ nth u.long k
theorem nth_setM (l : List Nat) (k x m : Nat) (hk : k < l.length) : nth (l.set k x) m = if m = k then x else nth l m := by
  unfold nth
  rw [List.getD_eq_getElem?_getD, List.getD_eq_getElem?_getD, List.getElem?_set]
  by_cases e : k = m
  · subst e; rw [if_pos rfl, if_pos hk, if_pos rfl]; rfl
  · rw [if_neg e, if_neg (Ne.symm e)]
theorem getB_set (l : List Bool) (k : Nat) (x : Bool) (m : Nat) (hk : k < l.length) : (l.set k x).getD m false = if m = k then x else l.getD m false := by
  rw [List.getD_eq_getElem?_getD, List.getD_eq_getElem?_getD, List.getElem?_set]
  by_cases e : k = m
  · subst e; rw [if_pos rfl, if_pos hk, if_pos rfl]; rfl
  · rw [if_neg e, if_neg (Ne.symm e)]
theorem k4_step (ms : List Mon) (n i win j : Nat) (vals : List Int) (u : LW) (s : St) (hj : j < n) (hf : 1 ≤ (mAt ms j).fr) (hw : 1 ≤ win) (h : K4 ms n i win j u s) : K4 ms n i win (j + 1) (lw1 ms vals i u j) (look1 ms vals s j) := by
  have hb := h.bad j hj
  have ht := h.trp j hj
  have hx : xk ms vals u j = if isIn (vals.getD (mAt ms j).of_ 0) = true then 0 else nth u.long j + 1 := rfl
  have hwr : ∀ x, (u.wrong || decide ((mAt ms j).fr ≤ x)) = true ↔ ∃ k, k < j + 1 ∧ (mAt ms k).fr ≤ nth (u.long.set j x) k := by
    intro x
    rw [Bool.or_eq_true, h.wr, decide_eq_true_iff]
    constructor
    · rintro (⟨k, h1, h2⟩ | h1)
      · exact ⟨k, by omega, by rw [nth_setM _ _ _ _ (by rw [h.ll]; exact hj), if_neg (by omega)]; exact h2⟩
      · exact ⟨j, by omega, by rw [nth_setM _ _ _ _ (by rw [h.ll]; exact hj), if_pos rfl]; exact h1⟩
    · rintro ⟨k, h1, h2⟩
      rw [nth_setM _ _ _ _ (by rw [h.ll]; exact hj)] at h2
      by_cases e : k = j
      · rw [if_pos e] at h2; subst e; exact .inr h2
      · rw [if_neg e] at h2; exact .inl ⟨k, by omega, h2⟩
  unfold look1 lw1
  rw [hx]
  by_cases h1 : isIn (vals.getD (mAt ms j).of_ 0) = true
  · rw [if_pos h1, if_pos h1, if_neg (by omega), if_neg (by omega)]
    exact ⟨by rw [List.length_set]; exact h.bl, by rw [List.length_set]; exact h.tl, by rw [List.length_set]; exact h.ll, fun k hk => by
      rw [nth_setM _ _ _ _ (by rw [h.bl]; exact hj), nth_setM _ _ _ _ (by rw [h.ll]; exact hj)]
      by_cases e : k = j
      · rw [if_pos e, if_pos e]; omega
      · rw [if_neg e, if_neg e]; exact h.bad k hk, fun k hk => by
      rw [getB_set _ _ _ _ (by rw [h.tl]; exact hj), nth_setM _ _ _ _ (by rw [h.ll]; exact hj)]
      by_cases e : k = j
      · subst e; rw [if_pos rfl, if_pos rfl]; exact (decide_eq_false (by omega)).symm
      · rw [if_neg e, if_neg e]; exact h.trp k hk, h.sx, h.pl, h.ord, h.le, h.why, hwr 0⟩
  · rw [if_neg h1, if_neg h1]
    by_cases h2 : min (nth s.bad j + 1) (mAt ms j).fr < (mAt ms j).fr ∨ s.trp.getD j false = true
    · have hne : nth u.long j + 1 ≠ (mAt ms j).fr := by
        rcases h2 with h2 | h2
        · omega
        · rw [ht, decide_eq_true_iff] at h2; omega
      rw [if_pos h2, if_neg hne, if_neg (fun h => hne h.1)]
      exact ⟨by rw [List.length_set]; exact h.bl, h.tl, by rw [List.length_set]; exact h.ll, fun k hk => by
        rw [nth_setM _ _ _ _ (by rw [h.bl]; exact hj), nth_setM _ _ _ _ (by rw [h.ll]; exact hj)]
        by_cases e : k = j
        · rw [if_pos e, if_pos e, e]; omega
        · rw [if_neg e, if_neg e]; exact h.bad k hk, fun k hk => by
        rw [nth_setM _ _ _ _ (by rw [h.ll]; exact hj)]
        by_cases e : k = j
        · subst e
          rw [if_pos rfl, ht]
          apply decide_eq_decide.2
          rcases h2 with h2 | h2
          · omega
          · rw [ht, decide_eq_true_iff] at h2; omega
        · rw [if_neg e]; exact h.trp k hk, h.sx, h.pl, h.ord, h.le, h.why, hwr _⟩
    · have h3 : ¬ min (nth s.bad j + 1) (mAt ms j).fr < (mAt ms j).fr := fun h => h2 (.inl h)
      have h4 : ¬ (mAt ms j).fr ≤ nth u.long j := fun h => h2 (.inr (by rw [ht]; exact decide_eq_true h))
      have he : nth u.long j + 1 = (mAt ms j).fr := by omega
      rw [if_neg h2, if_pos he]
      refine ⟨by rw [List.length_set]; exact h.bl, by rw [List.length_set]; exact h.tl, by rw [List.length_set]; exact h.ll, fun k hk => by
        rw [nth_setM _ _ _ _ (by rw [h.bl]; exact hj), nth_setM _ _ _ _ (by rw [h.ll]; exact hj)]
        by_cases e : k = j
        · rw [if_pos e, if_pos e, e]; omega
        · rw [if_neg e, if_neg e]; exact h.bad k hk, fun k hk => by
        rw [getB_set _ _ _ _ (by rw [h.tl]; exact hj), nth_setM _ _ _ _ (by rw [h.ll]; exact hj)]
        by_cases e : k = j
        · subst e; rw [if_pos rfl, if_pos rfl]; exact (decide_eq_true (by omega)).symm
        · rw [if_neg e, if_neg e]; exact h.trp k hk, ?_, cut_len _, ?_, ?_, ?_, hwr _⟩
      · rw [agesT_snoc win i _ hw]
        exact sfx_trip _ _ h.sx h.pl
      · rw [List.pairwise_append]
        exact ⟨h.ord, List.pairwise_singleton _ _, fun a ha b hb => by rw [List.mem_singleton] at hb; subst hb; exact h.le a ha⟩
      · intro t ht
        rcases List.mem_append.1 ht with h5 | h5
        · exact h.le t h5
        · rw [List.mem_singleton] at h5; omega
      · show fb ms (s.now ++ [j]) = if nth u.long j + 1 = (mAt ms j).fr ∧ (mAt ms j).tier = 3 ∧ u.why = -1 then (j : Int) else u.why
        rw [fb_snoc, h.why]
        by_cases h6 : u.why = -1
        · rw [if_neg (fun h => h h6)]
          by_cases h7 : (mAt ms j).tier = 3
          · rw [if_pos h7, if_pos ⟨he, h7, h6⟩]
          · rw [if_neg h7, if_neg (fun h => h7 h.2.1), h6]
        · rw [if_pos h6, if_neg (fun h => h6 h.2.2)]
theorem k4_to (ms : List Mon) (n i win : Nat) (vals : List Int) (u : LW) (s : St) (hf : ∀ k, k < n → 1 ≤ (mAt ms k).fr) (hw : 1 ≤ win) (h : K4 ms n i win 0 u s) : ∀ j, j ≤ n → K4 ms n i win j (lwTo ms vals i u j) (lookTo ms vals s j)
  | 0, _ => h
  | j + 1, hj => k4_step ms n i win j vals _ _ (by omega) (hf j (by omega)) hw (k4_to ms n i win vals u s hf hw h j (by omega))
/-- between two ticks -/
structure JG (ms : List Mon) (n sil win i : Nat) (s : St) (long : List Nat) (quiet : Nat) (trips : List Nat) : Prop where
  bl : s.bad.length = n
  tl : s.trp.length = n
  ll : long.length = n
  bad : ∀ k, k < n → nth s.bad k = min (nth long k) (mAt ms k).fr
  trp : ∀ k, k < n → s.trp.getD k false = decide ((mAt ms k).fr ≤ nth long k)
  sx : Sfx (agesT win (i - 1) trips) s.trips
  pl : s.trips.length ≤ 100
  ord : trips.Pairwise (· ≤ ·)
  le : ∀ t ∈ trips, t + 1 ≤ i
  q : s.quiet = min quiet sil
  sf : s.safe = decide (s.why ≠ -1)
  w1 : -3 ≤ s.why
  w2 : s.why + 1 ≤ (n : Int)
  lmax : ∀ k, nth long k ≤ i
  tmax : trips.length ≤ i * n
theorem JG.std {ms : List Mon} {n sil win i : Nat} {s : St} {long : List Nat} {quiet : Nat} {trips : List Nat} (h : JG ms n sil win i s long quiet trips) (hn : ms.length = n) (hf : ∀ k, k < n → 1 ≤ (mAt ms k).fr) : StdP ms sil win s.safe s.why s.bad s.trp s.quiet s.trips := by
  subst hn
  obtain ⟨p, hA, _⟩ := h.sx
  have h1 : ∀ x ∈ s.trips, x < win := fun x hx => ages_lt win (i - 1) trips x (by rw [hA]; exact List.mem_append_right _ hx)
  have h2 : s.trips.Pairwise (fun a b => b ≤ a) := by
    have := ages_ord win (i - 1) trips h.ord
    rw [hA] at this
    exact (List.pairwise_append.1 this).2.1
  refine ⟨h.bl, h.tl, h.pl, by rw [h.q]; omega, h.w1, h.w2, h.sf, fun k hk => by rw [h.bad k hk]; omega, fun k hk ht => ?_, fun k hk => ?_, fun k hk => ?_⟩
  · rw [h.trp k hk, decide_eq_true_iff] at ht
    rw [h.bad k hk]
    omega
  · have : nth s.trips k ∈ s.trips := by
      unfold nth
      rw [List.getD_eq_getElem?_getD, List.getElem?_eq_getElem hk]
      exact List.getElem_mem hk
    have := h1 _ this
    omega
  · have := List.pairwise_iff_getElem.1 h2 k (k + 1) (by omega) hk (by omega)
    unfold nth
    rw [List.getD_eq_getElem?_getD, List.getD_eq_getElem?_getD, List.getElem?_eq_getElem hk, List.getElem?_eq_getElem (by omega : k < s.trips.length)]
    exact this

theorem lw1_long (ms : List Mon) (vals : List Int) (i m : Nat) (u : LW) (k : Nat) (h : ∀ a, nth u.long a ≤ m + 1) (hk : nth u.long k ≤ m) : ∀ a, nth (lw1 ms vals i u k).long a ≤ m + 1 := fun a => by
  have hx : xk ms vals u k ≤ m + 1 := by unfold xk; split <;> omega
  exact nth_set_le _ _ _ _ _ (h a) hx
theorem lwTo_long (ms : List Mon) (vals : List Int) (i m : Nat) (u : LW) (h : ∀ a, nth u.long a ≤ m) : ∀ j, (∀ a, nth (lwTo ms vals i u j).long a ≤ m + 1) ∧ (∀ a, j ≤ a → nth (lwTo ms vals i u j).long a ≤ m) ∧ (lwTo ms vals i u j).long.length = u.long.length ∧ (lwTo ms vals i u j).trips.length ≤ u.trips.length + j
  | 0 => ⟨fun a => Nat.le_succ_of_le (h a), fun a _ => h a, rfl, Nat.le_refl _⟩
  | j + 1 => by
    obtain ⟨h1, h2, h3, h4⟩ := lwTo_long ms vals i m u h j
    refine ⟨lw1_long ms vals i m _ j h1 (h2 j (Nat.le_refl _)), fun a ha => ?_, by rw [← h3]; exact List.length_set, ?_⟩
    · show nth ((lwTo ms vals i u j).long.set j _) a ≤ m
      unfold nth
      rw [List.getD_eq_getElem?_getD, List.getElem?_set_ne (by omega), ← List.getD_eq_getElem?_getD]
      exact h2 a (by omega)
    · show (if _ then _ else _ : List Nat).length ≤ _
      split
      · rw [List.length_append]; simp; omega
      · omega
/-- why the craft is safe, as the law counts it -/
def whyL (sil most cnt quiet : Nat) (why : Int) : Int :=
  if (if why = -1 ∧ most ≤ cnt then -3 else why) = -1 ∧ 0 < sil ∧ sil ≤ quiet then -2 else if why = -1 ∧ most ≤ cnt then -3 else why
def quiet1 (heard : Bool) (q : Nat) : Nat := if heard = true then 0 else q + 1
def leavesL (safe leave heard wrong : Bool) : Bool := safe && leave && heard && !wrong
/-- one tick -/
structure TickP (ms : List Mon) (n sil most win i : Nat) (nam : ByteArray) (vals : List Int) (heard leave : Bool) (s : St) (quiet : Nat) (S : St) (N : List ByteArray) (U : LW) : Prop where
  jg : JG ms n sil win (i + 1) S U.long (quiet1 heard quiet) (if leavesL s.safe leave heard U.wrong = true then [] else U.trips)
  stay : s.safe = true → leavesL s.safe leave heard U.wrong = false → S.safe = true ∧ S.why = s.why
  free : leavesL s.safe leave heard U.wrong = true → S.safe = false
  turn : s.safe = false → S.why = whyL sil most (agesT win i U.trips).length (quiet1 heard quiet) U.why ∧ S.safe = decide (S.why ≠ -1)
  made : (S.safe && !s.safe) = decide (N.getD 0 ByteArray.empty = nam)
  wl : U.long.length = n
  ule : ∀ t ∈ U.trips, t ≤ i
  utl : U.trips.length ≤ (i + 1) * n
theorem contains_trp (ms : List Mon) (n : Nat) (l : List Bool) (long : List Nat) (h : l.length = n) (ht : ∀ k, k < n → l.getD k false = decide ((mAt ms k).fr ≤ nth long k)) : l.contains true = true ↔ ∃ k, k < n ∧ (mAt ms k).fr ≤ nth long k := by
  rw [List.contains_iff_mem, List.mem_iff_getElem?]
  constructor
  · rintro ⟨k, hk⟩
    have h1 := (List.getElem?_eq_some_iff.1 hk).1
    refine ⟨k, by omega, ?_⟩
    have := ht k (by omega)
    rw [List.getD_eq_getElem?_getD, hk] at this
    exact of_decide_eq_true this.symm
  · rintro ⟨k, hk, h1⟩
    refine ⟨k, ?_⟩
    have := ht k hk
    rw [decide_eq_true h1, List.getD_eq_getElem?_getD, List.getElem?_eq_getElem (by omega)] at this
    rw [List.getElem?_eq_getElem (by omega)]
    exact congrArg some this
theorem min_iff (a b : Nat) : min a b = b ↔ b ≤ a := by omega
theorem say_pre (l : List ByteArray) (s nam : ByteArray) (h : l.head? = some nam) : (say l s).head? = some nam := by
  unfold say
  split
  · exact h
  · cases l with
    | nil => cases h
    | cons a l => exact h
theorem says_pre (ms : List Mon) (sf : Bool) (l : List ByteArray) (now : List Nat) (nam : ByteArray) (h : l.head? = some nam) : ∀ j, (saysTo ms sf l now j).head? = some nam
  | 0 => h
  | j + 1 => by
    unfold saysTo
    split
    · exact say_pre _ _ _ (says_pre ms sf l now nam h j)
    · exact says_pre ms sf l now nam h j
theorem says_not (ms : List Mon) (sf : Bool) (n : Nat) (now : List Nat) (nam : ByteArray) (hm : ∀ k, k < n → (mAt ms k).name ≠ nam) (hn : ∀ i, i < now.length → nth now i < n) : ∀ j, j ≤ now.length → ∀ x ∈ saysTo ms sf [] now j, x ≠ nam
  | 0, _, x, hx => by cases hx
  | j + 1, hj, x, hx => by
    have ih := says_not ms sf n now nam hm hn j (by omega)
    unfold saysTo at hx
    split at hx
    · unfold say at hx
      split at hx
      · exact ih x hx
      · rcases List.mem_append.1 hx with h | h
        · exact ih x h
        · rw [List.mem_singleton] at h
          rw [h]
          exact hm _ (hn j (by omega))
    · exact ih x hx
set_option maxHeartbeats 1000000 in
theorem jg_tick (ms : List Mon) (n sil most win i : Nat) (nam : ByteArray) (vals : List Int) (heard leave : Bool) (s : St) (long : List Nat) (quiet : Nat) (trips : List Nat) (hn : ms.length = n) (hf : ∀ k, k < n → 1 ≤ (mAt ms k).fr) (hw : 1 ≤ win) (hm : most ≤ 6) (hm1 : 1 ≤ most)
    (hnam : ∀ k, k < n → (mAt ms k).name ≠ nam) (hne : nam ≠ ⟨#[]⟩) (hne2 : nam ≠ ByteArray.empty) (h : JG ms n sil win i s long quiet trips) :
    TickP ms n sil most win i nam vals heard leave s quiet (nextS sil most win ms vals heard leave n s.safe s.why s.bad s.trp s.quiet s.trips) (nextN sil most win nam ms vals heard leave n s.safe s.why s.bad s.trp s.quiet s.trips) (lwTo ms vals i ⟨long, trips, -1, false⟩ n) := by
  have hag : agesT win i trips = kp win ((agesT win (i - 1) trips).map (· + 1)) := by
    cases i with
    | zero =>
      have : trips = [] := by
        cases trips with
        | nil => rfl
        | cons a l => have := h.le a (List.mem_cons_self ..); omega
      rw [this]; rfl
    | succ i => exact agesT_step win i trips (fun t ht => by have := h.le t ht; omega)
  have hK := k4_to ms n i win vals ⟨long, trips, -1, false⟩ (St.mk s.safe s.why s.bad s.trp (ageQ sil s.quiet heard) (ageT win s.trips) []) hf hw
    ⟨h.bl, h.tl, h.ll, h.bad, h.trp, by
      rw [hag]; exact sfx_age win _ _ h.sx (ages_ord win (i - 1) trips h.ord) (ages_lt win (i - 1) trips), by
      show (ageT win s.trips).length ≤ 100
      unfold ageT
      have h1 := kp_len win (s.trips.map (· + 1))
      rw [List.length_map] at h1
      have := h.pl
      omega, h.ord, fun t ht => by have := h.le t ht; omega, rfl, by simp⟩ n (Nat.le_refl _)
  obtain ⟨l1, l2, l3, l4⟩ := lwTo_long ms vals i i ⟨long, trips, -1, false⟩ h.lmax n
  have hnow := lookTo_now ms vals (St.mk s.safe s.why s.bad s.trp (ageQ sil s.quiet heard) (ageT win s.trips) []) rfl n
  obtain ⟨hsf, hwy, hqt⟩ := lookTo_same ms vals (St.mk s.safe s.why s.bad s.trp (ageQ sil s.quiet heard) (ageT win s.trips) []) n
  have hq' : ageQ sil s.quiet heard = min (quiet1 heard quiet) sil := by
    have := h.q
    unfold ageQ quiet1
    split <;> omega
  unfold nextN nextS
  generalize lookTo ms vals (St.mk s.safe s.why s.bad s.trp (ageQ sil s.quiet heard) (ageT win s.trips) []) n = t at *
  generalize lwTo ms vals i ⟨long, trips, -1, false⟩ n = U at *
  have hct := contains_trp ms n t.trp U.long hK.tl hK.trp
  have hwr : U.wrong = t.trp.contains true := by
    rw [Bool.eq_iff_iff, hct, hK.wr]
  have hmost := sfx_most _ _ hK.sx most hm
  have hfbc := fb_cases ms n t.now hnow
  have hts : t.safe = s.safe := hsf
  have htw : t.why = s.why := hwy
  have htq : t.quiet = min (quiet1 heard quiet) sil := hqt.trans hq'
  have hlm : ∀ k, nth U.long k ≤ i + 1 := l1
  have htm : U.trips.length ≤ (i + 1) * n := by
    have := h.tmax
    rw [Nat.succ_mul]
    have h9 : U.trips.length ≤ trips.length + n := l4
    omega
  have hle : ∀ x ∈ U.trips, x + 1 ≤ i + 1 := fun x hx => by have := hK.le x hx; omega
  have hage : agesT win (i + 1 - 1) U.trips = agesT win i U.trips := by rw [Nat.add_sub_cancel]
  have hjw : jw sil most ms t = whyL sil most (agesT win i U.trips).length (quiet1 heard quiet) U.why := by
    unfold jw whyL
    rw [hK.why, htq]
    by_cases e1 : U.why = -1
    · rw [if_neg (fun h => h e1)]
      by_cases e2 : most ≤ t.trips.length
      · have e3 := hmost.1 e2
        have hv : (if U.why = -1 ∧ most ≤ (agesT win i U.trips).length then -3 else U.why) = -3 := if_pos ⟨e1, e3⟩
        rw [if_pos e2, hv, if_neg (fun h => by have := h.1; omega)]
      · have e3 : ¬ most ≤ (agesT win i U.trips).length := fun h => e2 (hmost.2 h)
        have hv : (if U.why = -1 ∧ most ≤ (agesT win i U.trips).length then -3 else U.why) = -1 := by rw [if_neg (fun h => e3 h.2)]; exact e1
        rw [if_neg e2, hv]
        by_cases e4 : 0 < sil ∧ min (quiet1 heard quiet) sil = sil
        · rw [if_pos e4, if_pos ⟨rfl, e4.1, (min_iff _ _).1 e4.2⟩]
        · rw [if_neg e4, if_neg (fun h => e4 ⟨h.2.1, (min_iff _ _).2 h.2.2⟩)]
    · have hv : (if U.why = -1 ∧ most ≤ (agesT win i U.trips).length then -3 else U.why) = U.why := if_neg (fun h => e1 h.1)
      rw [if_pos e1, hv, if_neg (fun h => e1 h.1)]
  have hjr : -3 ≤ jw sil most ms t ∧ jw sil most ms t + 1 ≤ (n : Int) := by
    unfold jw
    split
    · omega
    · split
      · omega
      · split <;> omega
  unfold stepS stepN
  rw [hts]
  cases hs : s.safe with
  | false =>
    rw [if_pos rfl]
    have hlv : leavesL s.safe leave heard U.wrong = false := by rw [hs]; rfl
    refine ⟨?_, (fun h => by rw [hs] at h; cases h), (fun h => by rw [hlv] at h; cases h), (fun _ => ⟨hjw, rfl⟩), ?_, l3.trans h.ll, hK.le, htm⟩
    · rw [hlv, if_neg (by decide)]
      exact ⟨hK.bl, hK.tl, l3.trans h.ll, hK.bad, hK.trp, by rw [hage]; exact hK.sx, hK.pl, hK.ord, hle, htq, rfl, hjr.1, hjr.2, hlm, htm⟩
    · rw [hs]
      cases hj : (judged sil most ms t).safe with
      | false =>
        rw [if_neg (by simp)]
        have := says_not ms false n t.now nam hnam hnow t.now.length (Nat.le_refl _)
        show false = _
        refine (decide_eq_false (fun h => ?_)).symm
        have e2 : (judged sil most ms t).now = t.now := rfl
        rw [e2] at h
        cases hx : saysTo ms false [] t.now t.now.length with
        | nil => rw [hx] at h; exact hne2 h.symm
        | cons a l => rw [hx] at h; exact this a (by rw [hx]; exact List.mem_cons_self ..) h
      | true =>
        rw [if_pos ⟨rfl, rfl⟩]
        have e2 : (say [] nam).head? = some nam := by unfold say; rw [if_neg hne]; rfl
        have := says_pre ms true (say [] nam) t.now nam e2 t.now.length
        show true = _
        refine (decide_eq_true ?_).symm
        have e3 : (judged sil most ms t).now = t.now := rfl
        rw [e3]
        cases hx : saysTo ms true (say [] nam) t.now t.now.length with
        | nil => rw [hx] at this; cases this
        | cons a l => rw [hx] at this; cases this; rfl
  | true =>
    have hN0 : ¬ (true = false ∧ (judged sil most ms t).safe = true) := fun h => by cases h.1
    rw [if_neg (by decide), if_neg hN0]
    have hnm : ∀ sf : Bool, false = decide ((saysTo ms sf [] t.now t.now.length).getD 0 ByteArray.empty = nam) := fun sf => by
      refine (decide_eq_false (fun h => ?_)).symm
      have := says_not ms sf n t.now nam hnam hnow t.now.length (Nat.le_refl _)
      cases hx : saysTo ms sf [] t.now t.now.length with
      | nil => rw [hx] at h; exact hne2 h.symm
      | cons a l => rw [hx] at h; exact this a (by rw [hx]; exact List.mem_cons_self ..) h
    by_cases hl : leave = true ∧ heard = true ∧ t.trp.contains true = false
    · rw [if_pos hl]
      have hlv : leavesL s.safe leave heard U.wrong = true := by unfold leavesL; rw [hs, hwr, hl.1, hl.2.1, hl.2.2]; rfl
      refine ⟨?_, (fun _ h => by rw [hlv] at h; cases h), fun _ => rfl, (fun h => by rw [hs] at h; cases h), (by rw [hs]; exact hnm _), l3.trans h.ll, hK.le, htm⟩
      rw [hlv, if_pos rfl]
      exact ⟨hK.bl, hK.tl, l3.trans h.ll, hK.bad, hK.trp, ⟨[], rfl, .inl rfl⟩, Nat.zero_le _, List.Pairwise.nil, (fun t ht => by cases ht), htq, rfl, (by show (-3 : Int) ≤ -1; omega), (by show (-1 : Int) + 1 ≤ (n : Int); omega), hlm, Nat.zero_le _⟩
    · rw [if_neg hl]
      have hlv : leavesL s.safe leave heard U.wrong = false := by
        unfold leavesL
        rw [hs, hwr]
        cases leave
        · rfl
        · cases heard
          · rfl
          · cases hc : t.trp.contains true
            · exact absurd ⟨rfl, rfl, hc⟩ hl
            · rfl
      refine ⟨?_, fun _ _ => ⟨hts.trans hs, htw⟩, (fun h => by rw [hlv] at h; cases h), (fun h => by rw [hs] at h; cases h), ?_, l3.trans h.ll, hK.le, htm⟩
      · rw [hlv, if_neg (by decide)]
        exact ⟨hK.bl, hK.tl, l3.trans h.ll, hK.bad, hK.trp, by rw [hage]; exact hK.sx, hK.pl, hK.ord, hle, htq, by rw [hts, htw]; exact h.sf, by rw [htw]; exact h.w1, by rw [htw]; exact h.w2, hlm, htm⟩
      · rw [hs, Bool.not_true, Bool.and_false]
        exact hnm _
end Go.Proofs.Ytkgnelmnadnbhaa
