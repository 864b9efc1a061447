/- Stream: one step, whichever it is. -/
import Derived.Test.YtlbpmepifegeiaaRunP
namespace Go.Proofs.Ytlbpmepifegeiaa
set_option linter.unusedVariables false
open Go.RowKit

/-- how a step ends -/
structure StepE (B0 sb : Nat) (s : SyV) (B : List Nat) (F : List Fd) (W : World) (e : Ending) (w' : World) : Prop where
  ex : ∃ (s' : SyV) (F' : List Fd), SyIn w' sb s' B ∧ rl s' = rl s ∧ s'.ba = s.ba ∧ s'.bn = s.bn ∧ s'.bc = s.bc ∧ s'.base = s.base ∧ Steps (rl s) B (core s) (F'.map Fd.fo) (core s') ∧ MInv (rl s) B s.base s'.fn (core s') ∧
    w'.ownsRow B0 35 4 (.slice s'.fa s'.fn s'.fc) s'.fn (fcs (F ++ F')) ∧ s'.fn = s.fn + F'.length ∧ (∀ f ∈ F', f.In w' W.heap.size) ∧
    (∀ k, (Value.slice s'.fa s'.fn s'.fc).ownBlock = some k → (Value.slice s.fa s.fn s.fc).ownBlock = some k ∨ W.heap.size ≤ k) ∧
    ((e = .returned (.bool true) ∧ mu B (core s') < mu B (core s)) ∨ (e = .returned (.bool false) ∧ mstep (rl s) B (core s') = none))
  kept : KeptP (fun k => k = sb ∨ (Value.slice s.fa s.fn s.fc).ownBlock = some k) W w'

theorem step_ok (B0 sb : Nat) (s : SyV) (B : List Nat) (F : List Fd) (W : World) (h : SyIn W sb s B) (hi : MInv (rl s) B s.base s.fn (core s)) (hB0 : B0 ≤ W.heap.size)
    (hf : W.ownsRow B0 35 4 (.slice s.fa s.fn s.fc) s.fn (fcs F)) :
    Calls Try.prog s.st #[.pointer (some ⟨sb, 0, none⟩)] W (StepE B0 sb s B F W) := by
  have hle : s.pos ≤ B.length := hi.le
  have hbig := h.big
  have keep1 : ∀ {w' : World}, W.grownBy w' (some sb) → w'.ownsRow B0 35 4 (.slice s.fa s.fn s.fc) s.fn (fcs (F ++ [])) ∧ KeptP (fun k => k = sb ∨ (Value.slice s.fa s.fn s.fc).ownBlock = some k) W w' := fun hg =>
    ⟨by rw [List.append_nil]; exact hf.kept hg (own_ne hf (show W.heap[sb]? = _ from h.at_) (by decide)), KeptP.grown hg (fun r e => by cases e; exact .inl rfl)⟩
  rcases hi.st with hst | hst | hst
  · have hst' : s.st = 15 := hst
    rw [hst']
    refine (search_ok sb s B W h hi.ba (by omega)).mono ?_
    rintro e w' ⟨q, hq, hno, hcase, hg⟩
    obtain ⟨k, rfl⟩ : ∃ k, q = s.pos + k := ⟨q - s.pos, by omega⟩
    obtain ⟨hf', hk⟩ := keep1 hg
    have hss := search_steps (rl s) B (core s) hst k hno
    rcases hcase with ⟨h32, rfl, hS⟩ | ⟨t, h32, hh, rfl, hS⟩
    · refine ⟨⟨_, [], hS, rfl, rfl, rfl, rfl, rfl, hss, ?_, hf', rfl, (fun f hf => nomatch hf), fun k hk => .inl hk, .inr ⟨rfl, mstep_short hst h32⟩⟩, hk⟩
      have hpk : s.pos + k ≤ B.length := by
        rcases Nat.eq_zero_or_pos k with h0 | h0
        · omega
        · have := (hno (s.pos + k - 1) (by omega) (by omega)).1; omega
      exact ⟨hpk, Nat.le_trans hi.ba (Nat.le_add_right _ _), fun h => absurd (hst.symm.trans h) (by decide), .inl hst, hi.mi, hi.mi2, Nat.le_trans hi.fc (Nat.le_add_right _ _), fun h => absurd (hst.symm.trans h) (by decide)⟩
    · have h1 := Steps.one (mstep_hit (r := rl s) (m := { core s with pos := s.pos + k }) hst h32 hh)
      refine ⟨⟨_, [], hS, rfl, rfl, rfl, rfl, rfl, hss.trans h1, ?_, hf', rfl, (fun f hf => nomatch hf), fun k hk => .inl hk, .inl ⟨rfl, ?_⟩⟩, hk⟩
      · exact ⟨by show s.pos + k ≤ _; omega, Nat.le_trans hi.ba (Nat.le_add_right _ _), fun h => absurd h (by show ¬ 24 = 29; decide), .inr (.inl rfl), Nat.zero_le _, fun _ => Nat.zero_le _, Nat.le_trans hi.fc (Nat.le_add_right _ _), fun h => absurd h (by show ¬ 24 = 29; decide)⟩
      · have e1 : mu B (core s) = 3 * (B.length + 2 - s.pos) + 2 := by unfold mu; rw [if_pos hst]; rfl
        have e2 : mu B (core { s with pos := s.pos + k, tu := t, mi := 0, lo := true, st := 24 }) = 3 * (B.length + 2 - (s.pos + k)) + 1 := rfl
        rw [e1, e2]; omega
  · have hst' : s.st = 24 := hst
    rw [hst']
    by_cases hL : s.pos + 32 + 8 * s.L ≤ B.length
    · refine (read_yes B0 sb s B F W h hi.ba hL hB0 hf (by have h1 : 39 * s.fn ≤ s.pos := hi.fc; omega)).mono ?_
      rintro e w' ⟨rfl, fa, fc, f, hp, ht, hm, hd, hin, hS, hf', hwh, hk⟩
      have hLp := h.rL
      have h1 := Steps.one (mstep_read (r := rl s) (m := core s) hst hL)
      have hfo : [f].map Fd.fo = [⟨s.pos, s.tu, s.mi, frD s.L B s.pos s.tu⟩] := by
        show [Fo.mk f.pos f.tu f.mi f.ds] = _
        rw [hp, ht, hm, hd]
      refine ⟨⟨_, [f], hS, rfl, rfl, rfl, rfl, rfl, by rw [hfo]; exact h1, ?_, hf', rfl, fun g hg => by simp at hg; subst hg; exact hin, hwh, .inl ⟨rfl, ?_⟩⟩, hk⟩
      · have h2 : 39 * s.fn ≤ s.pos := hi.fc
        exact ⟨hL, by have h3 : s.base ≤ s.pos := hi.ba; show s.base ≤ s.pos + 32 + 8 * s.L; omega, fun _ => by have h3 : s.base ≤ s.pos := hi.ba; show s.base + 1 ≤ s.pos + 32 + 8 * s.L; omega, .inr (.inr rfl), hi.mi, fun _ => hi.mi2 (by rw [hst]; decide), by show 39 * (s.fn + 1) ≤ s.pos + 32 + 8 * s.L; omega, fun _ => by show 39 * (s.fn + 1) + 1 ≤ s.pos + 32 + 8 * s.L; omega⟩
      · have e1 : mu B (core s) = 3 * (B.length + 2 - s.pos) + 1 := by unfold mu; rw [if_neg (by rw [hst]; decide), if_pos hst]; rfl
        have e2 : mu B (core { s with pos := s.pos + 32 + 8 * s.L, st := 29, fa := fa, fn := s.fn + 1, fc := fc }) = 3 * (B.length + 2 - (s.pos + 32 + 8 * s.L)) + 50 := rfl
        rw [e1, e2]; omega
    · refine (read_no sb s B W h (by omega) (by omega)).mono ?_
      rintro e w' ⟨rfl, hb⟩
      obtain ⟨hf', hk⟩ := keep1 (grownBy_of_below hb _)
      exact ⟨⟨s, [], h.below hb, rfl, rfl, rfl, rfl, rfl, Steps.nil _, hi, hf', rfl, (fun f hf => nomatch hf), fun k hk => .inl hk, .inr ⟨rfl, mstep_unread hst (by show B.length < s.pos + 32 + 8 * s.L; omega)⟩⟩, hk⟩
  · have hst' : s.st = 29 := hst
    rw [hst']
    by_cases h32 : s.pos + 32 ≤ B.length
    · have hM := h.rM
      have hmi : s.mi ≤ s.M := hi.mi2 (by rw [hst]; decide)
      refine (exp_some sb s B W h (hi.base1 hst) h32 (by omega)).mono ?_
      intro e w' hE
      unfold ExpE at hE
      split at hE
      · rename_i hc
        obtain ⟨rfl, hb⟩ := hE
        obtain ⟨hf', hk⟩ := keep1 (grownBy_of_below hb _)
        exact ⟨⟨s, [], h.below hb, rfl, rfl, rfl, rfl, rfl, Steps.nil _, hi, hf', rfl, (fun f hf => nomatch hf), fun k hk => .inl hk, .inr ⟨rfl, mstep_unexp hst (.inr hc)⟩⟩, hk⟩
      · rename_i hc
        obtain ⟨rfl, hS, hg⟩ := hE
        obtain ⟨hf', hk⟩ := keep1 hg
        have h33 : wrN (winN B (core s).pos) (core s).tu ≤ ((rl s).H : Int) ∨ (core s).pos + 33 ≤ B.length := by
          by_cases h1 : wrN (winN B s.pos) s.tu ≤ (s.H : Int)
          · exact .inl h1
          · right
            show s.pos + 33 ≤ _
            by_cases h2 : B.length < s.pos + 33
            · exact absurd ⟨h1, h2⟩ hc
            · omega
        obtain ⟨hi2, hmu⟩ := hi.exp hst h32 h33
        have hce := core_exp s B
        have hex : (expV s B).fa = s.fa ∧ (expV s B).fn = s.fn ∧ (expV s B).fc = s.fc ∧ (expV s B).ba = s.ba ∧ (expV s B).bn = s.bn ∧ (expV s B).bc = s.bc ∧ (expV s B).base = s.base ∧ rl (expV s B) = rl s := by
          unfold expV
          split
          · exact ⟨rfl, rfl, rfl, rfl, rfl, rfl, rfl, rfl⟩
          · split
            · exact ⟨rfl, rfl, rfl, rfl, rfl, rfl, rfl, rfl⟩
            · split
              · exact ⟨rfl, rfl, rfl, rfl, rfl, rfl, rfl, rfl⟩
              · split
                · exact ⟨rfl, rfl, rfl, rfl, rfl, rfl, rfl, rfl⟩
                · split <;> exact ⟨rfl, rfl, rfl, rfl, rfl, rfl, rfl, rfl⟩
        obtain ⟨x1, x2, x3, x4, x5, x6, x7, x8⟩ := hex
        refine ⟨⟨expV s B, [], hS, x8, x4, x5, x6, x7, ?_, ?_, ?_, ?_, (fun f hf => nomatch hf), ?_, .inl ⟨rfl, ?_⟩⟩, hk⟩
        · rw [hce]; exact Steps.one (mstep_exp hst h32 h33)
        · rw [hce, x2]; exact hi2
        · rw [x1, x2, x3]; exact hf'
        · rw [x2]; rfl
        · rw [x1, x2, x3]; exact fun k hk => .inl hk
        · rw [hce]; exact hmu
    · refine (exp_no sb s B W h (by omega) (by omega)).mono ?_
      rintro e w' ⟨rfl, hb⟩
      obtain ⟨hf', hk⟩ := keep1 (grownBy_of_below hb _)
      exact ⟨⟨s, [], h.below hb, rfl, rfl, rfl, rfl, rfl, Steps.nil _, hi, hf', rfl, (fun f hf => nomatch hf), fun k hk => .inl hk, .inr ⟨rfl, mstep_unexp hst (.inl (by show B.length < s.pos + 32; omega))⟩⟩, hk⟩
end Go.Proofs.Ytlbpmepifegeiaa
