/- Stream: a Sync as a machine of small steps. No program in sight. -/
import Derived.Test.YtlbpmepifegeiaaExpect
namespace Go.Proofs.Ytlbpmepifegeiaa
set_option linter.unusedVariables false

structure Rl where
  L : Nat
  F : Nat
  H : Nat
  M : Nat
structure Ms where
  pos : Nat
  tu : Bool
  mi : Nat
  st : Nat
  lo : Bool
structure Fo where
  pos : Nat
  tu : Bool
  mi : Nat
  ds : List Nat
def Fd.fo (f : Fd) : Fo := ⟨f.pos, f.tu, f.mi, f.ds⟩
def core (s : SyV) : Ms := ⟨s.pos, s.tu, s.mi, s.st, s.lo⟩
def rl (s : SyV) : Rl := ⟨s.L, s.F, s.H, s.M⟩
def expM (r : Rl) (B : List Nat) (m : Ms) : Ms :=
  if wrN (winN B m.pos) m.tu ≤ (r.H : Int) then { m with mi := 0, st := 24 }
  else if wrN (winN B (m.pos - 1)) m.tu ≤ (r.F : Int) then { m with mi := 0, st := 24, pos := m.pos - 1 }
  else if wrN (winN B (m.pos + 1)) m.tu ≤ (r.F : Int) then { m with mi := 0, st := 24, pos := m.pos + 1 }
  else if wrN (winN B m.pos) (!m.tu) ≤ (r.H : Int) then { m with mi := 0, st := 24, tu := !m.tu }
  else if r.M < m.mi + 1 then { m with mi := m.mi + 1, st := 15, lo := false }
  else { m with mi := m.mi + 1, st := 24 }
theorem core_exp (s : SyV) (B : List Nat) : core (expV s B) = expM (rl s) B (core s) := by
  unfold expV expM core rl
  dsimp only
  split
  · rfl
  · split
    · rfl
    · split
      · rfl
      · split
        · rfl
        · split <;> rfl
def mstep (r : Rl) (B : List Nat) (m : Ms) : Option (Ms × List Fo) :=
  if m.st = 15 then
    if m.pos + 32 ≤ B.length then
      match hit r.F B m.pos with
      | some t => some ({ m with tu := t, mi := 0, lo := true, st := 24 }, [])
      | none => some ({ m with pos := m.pos + 1 }, [])
    else none
  else if m.st = 24 then
    if m.pos + 32 + 8 * r.L ≤ B.length then some ({ m with pos := m.pos + 32 + 8 * r.L, st := 29 }, [⟨m.pos, m.tu, m.mi, frD r.L B m.pos m.tu⟩]) else none
  else
    if m.pos + 32 ≤ B.length then
      if ¬ wrN (winN B m.pos) m.tu ≤ (r.H : Int) ∧ B.length < m.pos + 33 then none else some (expM r B m, [])
    else none
inductive Steps (r : Rl) (B : List Nat) : Ms → List Fo → Ms → Prop
  | nil (m : Ms) : Steps r B m [] m
  | cons {m m1 m2 : Ms} {f fs : List Fo} : mstep r B m = some (m1, f) → Steps r B m1 fs m2 → Steps r B m (f ++ fs) m2
theorem Steps.one {r : Rl} {B : List Nat} {m m1 : Ms} {f : List Fo} (h : mstep r B m = some (m1, f)) : Steps r B m f m1 := by
  have := Steps.cons h (Steps.nil m1)
  rwa [List.append_nil] at this
theorem Steps.trans {r : Rl} {B : List Nat} {m m1 m2 : Ms} {f g : List Fo} (h : Steps r B m f m1) (k : Steps r B m1 g m2) : Steps r B m (f ++ g) m2 := by
  induction h with
  | nil => exact k
  | cons h1 _ ih => rw [List.append_assoc]; exact Steps.cons h1 (ih k)
/-- steps till it is stuck -/
def Run (r : Rl) (B : List Nat) (m : Ms) (f : List Fo) (m' : Ms) : Prop := Steps r B m f m' ∧ mstep r B m' = none
theorem Run.det {r : Rl} {B : List Nat} {m m1 m2 : Ms} {f g : List Fo} (h : Run r B m f m1) (k : Run r B m g m2) : f = g ∧ m1 = m2 := by
  obtain ⟨h1, h2⟩ := h
  obtain ⟨k1, k2⟩ := k
  induction h1 generalizing g with
  | nil m =>
    cases k1 with
    | nil => exact ⟨rfl, rfl⟩
    | cons a b => rw [h2] at a; cases a
  | cons a b ih =>
    cases k1 with
    | nil => rw [k2] at a; cases a
    | cons a' b' =>
      rw [a] at a'
      cases a'
      obtain ⟨e1, e2⟩ := ih h2 b'
      exact ⟨by rw [e1], e2⟩
theorem Steps.run {r : Rl} {B : List Nat} {m m1 m2 : Ms} {f g : List Fo} (h : Steps r B m f m1) (k : Run r B m1 g m2) : Run r B m (f ++ g) m2 := ⟨h.trans k.1, k.2⟩

/-- how far it has still to go -/
def mu (B : List Nat) (m : Ms) : Nat := 3 * (B.length + 2 - m.pos) + (if m.st = 15 then 2 else if m.st = 24 then 1 else 50)
/-- what holds all the time -/
structure MInv (r : Rl) (B : List Nat) (base fn : Nat) (m : Ms) : Prop where
  le : m.pos ≤ B.length
  ba : base ≤ m.pos
  base1 : m.st = 29 → base + 1 ≤ m.pos
  st : m.st = 15 ∨ m.st = 24 ∨ m.st = 29
  mi : m.mi ≤ r.M + 1
  mi2 : m.st ≠ 15 → m.mi ≤ r.M
  fc : 39 * fn ≤ m.pos
  fn1 : m.st = 29 → 39 * fn + 1 ≤ m.pos

theorem mstep_on {r : Rl} {B : List Nat} {m : Ms} (hst : m.st = 15) (h32 : m.pos + 32 ≤ B.length) (hno : hit r.F B m.pos = none) : mstep r B m = some ({ m with pos := m.pos + 1 }, []) := by
  unfold mstep; rw [if_pos hst, if_pos h32, hno]
theorem mstep_hit {r : Rl} {B : List Nat} {m : Ms} {t : Bool} (hst : m.st = 15) (h32 : m.pos + 32 ≤ B.length) (hh : hit r.F B m.pos = some t) : mstep r B m = some ({ m with tu := t, mi := 0, lo := true, st := 24 }, []) := by
  unfold mstep; rw [if_pos hst, if_pos h32, hh]
theorem mstep_short {r : Rl} {B : List Nat} {m : Ms} (hst : m.st = 15) (h32 : B.length < m.pos + 32) : mstep r B m = none := by
  unfold mstep; rw [if_pos hst, if_neg (by omega)]
theorem mstep_read {r : Rl} {B : List Nat} {m : Ms} (hst : m.st = 24) (h : m.pos + 32 + 8 * r.L ≤ B.length) : mstep r B m = some ({ m with pos := m.pos + 32 + 8 * r.L, st := 29 }, [⟨m.pos, m.tu, m.mi, frD r.L B m.pos m.tu⟩]) := by
  unfold mstep; rw [if_neg (by omega), if_pos hst, if_pos h]
theorem mstep_unread {r : Rl} {B : List Nat} {m : Ms} (hst : m.st = 24) (h : B.length < m.pos + 32 + 8 * r.L) : mstep r B m = none := by
  unfold mstep; rw [if_neg (by omega), if_pos hst, if_neg (by omega)]
theorem mstep_exp {r : Rl} {B : List Nat} {m : Ms} (hst : m.st = 29) (h : m.pos + 32 ≤ B.length) (h33 : wrN (winN B m.pos) m.tu ≤ (r.H : Int) ∨ m.pos + 33 ≤ B.length) : mstep r B m = some (expM r B m, []) := by
  unfold mstep
  rw [if_neg (by omega), if_neg (by omega), if_pos h, if_neg]
  intro hh
  rcases h33 with h1 | h1
  · exact hh.1 h1
  · omega
theorem mstep_unexp {r : Rl} {B : List Nat} {m : Ms} (hst : m.st = 29) (h : B.length < m.pos + 32 ∨ (¬ wrN (winN B m.pos) m.tu ≤ (r.H : Int) ∧ B.length < m.pos + 33)) : mstep r B m = none := by
  unfold mstep
  rw [if_neg (by omega), if_neg (by omega)]
  rcases h with h | h
  · rw [if_neg (by omega)]
  · by_cases h1 : m.pos + 32 ≤ B.length
    · rw [if_pos h1, if_pos h]
    · rw [if_neg h1]
theorem search_steps (r : Rl) (B : List Nat) (m : Ms) (hst : m.st = 15) : ∀ (k : Nat), (∀ a, m.pos ≤ a → a < m.pos + k → a + 32 ≤ B.length ∧ hit r.F B a = none) → Steps r B m [] { m with pos := m.pos + k }
  | 0, _ => Steps.nil m
  | k + 1, h => by
    have h1 := search_steps r B m hst k (fun a h1 h2 => h a h1 (by omega))
    obtain ⟨h2, h3⟩ := h (m.pos + k) (by omega) (by omega)
    exact h1.trans (Steps.one (mstep_on (m := { m with pos := m.pos + k }) hst h2 h3))
theorem MInv.exp {r : Rl} {B : List Nat} {base fn : Nat} {m : Ms} (h : MInv r B base fn m) (hst : m.st = 29) (hp : m.pos + 32 ≤ B.length) (h33 : wrN (winN B m.pos) m.tu ≤ (r.H : Int) ∨ m.pos + 33 ≤ B.length) : MInv r B base fn (expM r B m) ∧ mu B (expM r B m) < mu B m := by
  have h1 := h.base1 hst
  have h2 := h.fn1 hst
  have h3 := h.mi2 (by omega)
  have h4 := h.le
  unfold expM
  split
  · exact ⟨⟨h.le, h.ba, fun h => by simp at h, .inr (.inl rfl), Nat.zero_le _, fun _ => Nat.zero_le _, h.fc, fun h => by simp at h⟩, by unfold mu; rw [if_neg (by dsimp only; decide), if_pos rfl, if_neg (by omega), if_neg (by omega)]; dsimp only; omega⟩
  · rename_i hno
    have h33 : m.pos + 33 ≤ B.length := h33.resolve_left hno
    split
    · exact ⟨⟨by dsimp only; omega, by dsimp only; omega, fun h => by simp at h, .inr (.inl rfl), Nat.zero_le _, fun _ => Nat.zero_le _, by dsimp only; omega, fun h => by simp at h⟩, by unfold mu; rw [if_neg (by dsimp only; decide), if_pos rfl, if_neg (by omega), if_neg (by omega)]; dsimp only; omega⟩
    · split
      · exact ⟨⟨by dsimp only; omega, by dsimp only; omega, fun h => by simp at h, .inr (.inl rfl), Nat.zero_le _, fun _ => Nat.zero_le _, by dsimp only; omega, fun h => by simp at h⟩, by unfold mu; rw [if_neg (by dsimp only; decide), if_pos rfl, if_neg (by omega), if_neg (by omega)]; dsimp only; omega⟩
      · split
        · exact ⟨⟨h.le, h.ba, fun h => by simp at h, .inr (.inl rfl), Nat.zero_le _, fun _ => Nat.zero_le _, h.fc, fun h => by simp at h⟩, by unfold mu; rw [if_neg (by dsimp only; decide), if_pos rfl, if_neg (by omega), if_neg (by omega)]; dsimp only; omega⟩
        · split
          · exact ⟨⟨h.le, h.ba, fun h => by simp at h, .inl rfl, by dsimp only; omega, fun h => absurd rfl h, h.fc, fun h => by simp at h⟩, by unfold mu; rw [if_pos rfl, if_neg (by omega), if_neg (by omega)]; dsimp only; omega⟩
          · exact ⟨⟨h.le, h.ba, fun h => by simp at h, .inr (.inl rfl), by dsimp only; omega, fun _ => by dsimp only; omega, h.fc, fun h => by simp at h⟩, by unfold mu; rw [if_neg (by dsimp only; decide), if_pos rfl, if_neg (by omega), if_neg (by omega)]; dsimp only; omega⟩
end Go.Proofs.Ytlbpmepifegeiaa
