/- say: a name is added to those that are to start; what it leaves. -/
import Derived.Test.YtkgnelmnadnbhaaJudgeG
namespace Go.Proofs.Ytkgnelmnadnbhaa
set_option linter.unusedVariables false
open Go.RowKit

theorem Try.info9 : (Try.prog.info? 9).map (fun i => (i.zero, i.size, i.bytes)) = some (some (.string ⟨#[]⟩), 1, 16) := by kernel_rfl
theorem Try.underlying39 : Try.prog.underlying 39 = some (.slice 9) := by kernel_rfl
def vsS (l : List ByteArray) : List Value := l.map Value.string
theorem vsS_len (l : List ByteArray) : (vsS l).length = l.length := by simp [vsS]
theorem vsS_append (a b : List ByteArray) : vsS (a ++ b) = vsS a ++ vsS b := by simp [vsS]
/-- only blocks of strings and the box of names may change -/
def Keeps (w w' : World) : Prop := w.heap.size ≤ w'.heap.size ∧ ∀ (b T : Nat) (cs : Array Value), T ≠ 9 → T ≠ 39 → w.heap[b]? = some (.cells cs T) → w'.heap[b]? = some (.cells cs T)
theorem Keeps.refl (w : World) : Keeps w w := ⟨Nat.le_refl _, fun _ _ _ _ _ h => h⟩
theorem Keeps.trans {a b c : World} (h : Keeps a b) (k : Keeps b c) : Keeps a c := ⟨Nat.le_trans h.1 k.1, fun x T cs h1 h2 h3 => k.2 x T cs h1 h2 (h.2 x T cs h1 h2 h3)⟩
theorem Keeps.below {w w' : World} (h : Below w.heap.size w w') : Keeps w w' := ⟨h.size, fun _ _ _ _ _ h3 => row_below h3 h⟩
theorem Keeps.own {w w' : World} {B n : Nat} {v : Value} {xs : List Value} (h : OwnAt w B 9 v n xs) (hg : w.grownBy w' v.ownBlock) : Keeps w w' :=
  ⟨hg.size, fun b T cs h1 h2 h3 => (hg.block b (row_lt h3) (fun e => by
    rcases h.ne h3 (Ne.symm h1) with h4 | h4
    · rw [h4] at e; cases e
    · exact h4 e.symm)).trans h3⟩
theorem Keeps.box {w w' : World} {nb : Nat} {v : Value} (h : w.heap[nb]? = some (.cells #[v] 39)) (hg : w.grownBy w' (some nb)) : Keeps w w' :=
  ⟨hg.size, fun b T cs h1 h2 h3 => (hg.block b (row_lt h3) (fun e => by
    cases e
    rw [h] at h3
    cases h3
    exact h2 rfl)).trans h3⟩
theorem OwnAt.keeps {w w' : World} {B e n : Nat} {v : Value} {xs : List Value} (h : OwnAt w B e v n xs) (hk : Keeps w w') (h9 : e ≠ 9) (h39 : e ≠ 39) : OwnAt w' B e v n xs := by
  refine ⟨h.1, h.2.imp id ?_⟩
  rintro ⟨g, o, cap, cur, h1, h2, h3, h4⟩
  exact ⟨g, o, cap, cur, h1, h2, hk.2 _ _ _ h9 h39 h3, h4⟩
theorem VS.keeps {w w' : World} {X B : Nat} {p : GP} {s : St} {bv tv pv nv : Value} (h : VS w X B p s bv tv pv nv) (hk : Keeps w w') : VS w' X B p s bv tv pv nv :=
  ⟨hk.2 _ _ _ (by decide) (by decide) h.row, h.hX, h.b.keeps hk (by decide) (by decide), h.t.keeps hk (by decide) (by decide), h.p_.keeps hk (by decide) (by decide), h.n.keeps hk (by decide) (by decide), h.bp, h.bn, h.pn⟩
/-- the box of the names -/
structure SB (w : World) (nb B : Nat) (l : List ByteArray) : Prop where
  ex : ∃ v, w.heap[nb]? = some (.cells #[v] 39) ∧ OwnAt w B 9 v l.length (vsS l)
  hB : B ≤ nb
theorem OwnAt.kx {w w' : World} {B e n X T : Nat} {cs : Array Value} {v : Value} {xs : List Value} (h : OwnAt w B e v n xs) (hx : w.heap[X]? = some (.cells cs T)) (hT : e ≠ T) (hk : Kx X w w') : OwnAt w' B e v n xs := by
  refine ⟨h.1, h.2.imp id ?_⟩
  rintro ⟨g, o, cap, cur, h1, h2, h3, h4⟩
  refine ⟨g, o, cap, cur, h1, h2, (hk.2 g (row_lt h3) (fun e2 => ?_)).trans h3, h4⟩
  subst e2
  rw [hx] at h3
  cases h3
  exact hT rfl
theorem SB.kx {w w' : World} {nb B X : Nat} {l : List ByteArray} {cs : Array Value} (h : SB w nb B l) (hx : w.heap[X]? = some (.cells cs 52)) (hk : Kx X w w') : SB w' nb B l := by
  obtain ⟨⟨v, h1, h2⟩, h3⟩ := h
  refine ⟨⟨v, (hk.2 nb (row_lt h1) (fun e => ?_)).trans h1, h2.kx hx (by decide) hk⟩, h3⟩
  subst e
  rw [hx] at h1
  cases h1
theorem SB.below {w w' : World} {nb B : Nat} {l : List ByteArray} (h : SB w nb B l) (hb : Below w.heap.size w w') : SB w' nb B l := by
  obtain ⟨⟨v, h1, h2⟩, h3⟩ := h
  exact ⟨⟨v, row_below h1 hb, h2.below hb⟩, h3⟩
/-- Trips: emptied -/
theorem VS.nilP {w : World} {X B : Nat} {p : GP} {s : St} {bv tv pv nv : Value} (h : VS w X B p s bv tv pv nv) :
    VS (w.setCell ⟨X, 5, none⟩ (.slice none 0 0)) X B p { s with trips := [] } bv tv (.slice none 0 0) nv ∧ w.grownBy (w.setCell ⟨X, 5, none⟩ (.slice none 0 0)) (some X) := by
  obtain ⟨q1, q2⟩ := set_row (cs' := rowX p { s with trips := [] } bv tv (.slice none 0 0) nv) h.row 5 (.slice none 0 0) rfl
  exact ⟨⟨q1, h.hX, h.b.kept q2 (h.b.ne h.row (by decide)), h.t.kept q2 (h.t.ne h.row (by decide)), OwnAt.nil _ _ _, h.n.kept q2 (h.n.ne h.row (by decide)), (fun k _ h2 => by cases h2), h.bn, (fun k h1 _ => by cases h1)⟩, q2⟩
theorem cut3G {w : World} {X B : Nat} {p : GP} {s : St} {bv tv pv nv : Value} (h : VS w X B p s bv tv pv nv) :
    VS (((w.setCell ⟨X, 0, none⟩ (.bool false)).setCell ⟨X, 1, none⟩ (.int .i64 (-1))).setCell ⟨X, 5, none⟩ (.slice none 0 0)) X B p { s with safe := false, why := -1, trips := [] } bv tv (.slice none 0 0) nv ∧
    w.grownBy (((w.setCell ⟨X, 0, none⟩ (.bool false)).setCell ⟨X, 1, none⟩ (.int .i64 (-1))).setCell ⟨X, 5, none⟩ (.slice none 0 0)) (some X) := by
  obtain ⟨a1, g1⟩ := h.setSafe false
  obtain ⟨a2, g2⟩ := a1.setWhy (-1)
  obtain ⟨a3, g3⟩ := a2.nilP
  exact ⟨a3, grownBy_trans (grownBy_trans g1 g2) g3⟩
/-- six cells are written over, one by one -/
theorem sixG {W : World} {b : Nat} {e : TypeId} {o0 o1 o2 o3 o4 o5 : Value} (A : W.heap[b]? = some (.cells #[o0, o1, o2, o3, o4, o5] e)) (v0 v1 v2 v3 v4 v5 : Value) :
    ((((((W.setCell ⟨b, 0, none⟩ v0).setCell ⟨b, 1, none⟩ v1).setCell ⟨b, 2, none⟩ v2).setCell ⟨b, 3, none⟩ v3).setCell ⟨b, 4, none⟩ v4).setCell ⟨b, 5, none⟩ v5).heap[b]? = some (.cells #[v0, v1, v2, v3, v4, v5] e) ∧ W.grownBy ((((((W.setCell ⟨b, 0, none⟩ v0).setCell ⟨b, 1, none⟩ v1).setCell ⟨b, 2, none⟩ v2).setCell ⟨b, 3, none⟩ v3).setCell ⟨b, 4, none⟩ v4).setCell ⟨b, 5, none⟩ v5) (some b) := by
  obtain ⟨h0, g0⟩ := set_row (cs' := #[v0, o1, o2, o3, o4, o5]) A 0 v0 rfl
  obtain ⟨h1, g1⟩ := set_row (cs' := #[v0, v1, o2, o3, o4, o5]) h0 1 v1 rfl
  obtain ⟨h2, g2⟩ := set_row (cs' := #[v0, v1, v2, o3, o4, o5]) h1 2 v2 rfl
  obtain ⟨h3, g3⟩ := set_row (cs' := #[v0, v1, v2, v3, o4, o5]) h2 3 v3 rfl
  obtain ⟨h4, g4⟩ := set_row (cs' := #[v0, v1, v2, v3, v4, o5]) h3 4 v4 rfl
  obtain ⟨h5, g5⟩ := set_row (cs' := #[v0, v1, v2, v3, v4, v5]) h4 5 v5 rfl
  exact ⟨h5, (grownBy_trans (grownBy_trans (grownBy_trans (grownBy_trans (grownBy_trans g0 g1) g2) g3) g4) g5)⟩
def say (l : List ByteArray) (s : ByteArray) : List ByteArray := if s = ⟨#[]⟩ then l else l ++ [s]
theorem say_len (l : List ByteArray) (s : ByteArray) : (say l s).length ≤ l.length + 1 := by
  unfold say
  split
  · omega
  · simp
/-- what is said of what trips now, behind j of them -/
def saysTo (ms : List Mon) (sf : Bool) (l : List ByteArray) (now : List Nat) : Nat → List ByteArray
  | 0 => l
  | j + 1 => if sf = false ∨ (mAt ms (nth now j)).tier = 3 then say (saysTo ms sf l now j) (mAt ms (nth now j)).name else saysTo ms sf l now j
theorem saysTo_len (ms : List Mon) (sf : Bool) (l : List ByteArray) (now : List Nat) : ∀ j, (saysTo ms sf l now j).length ≤ l.length + j
  | 0 => Nat.le_refl _
  | j + 1 => by
    have ih := saysTo_len ms sf l now j
    unfold saysTo
    split
    · have := say_len (saysTo ms sf l now j) (mAt ms (nth now j)).name
      omega
    · omega
set_option maxRecDepth 100000 in
set_option maxHeartbeats 4000000 in
theorem say_ok (nb B : Nat) (l : List ByteArray) (s : ByteArray) (w : World) (h : SB w nb B l) (hB : B ≤ w.heap.size) (hl : l.length ≤ 100) :
    Calls Try.prog 16 #[.string s, .pointer (some ⟨nb, 0, none⟩)] w fun e w' => e = .returned (.tuple #[]) ∧ SB w' nb B (say l s) ∧ Keeps w w' ∧ Below B w w' := by
  obtain ⟨ib, hib, ib0, ib1, ib2⟩ := info_parts Try.info9
  obtain ⟨v, hrow, hown⟩ := h.ex
  have hnB := h.hB
  by_cases hs : s = ⟨#[]⟩
  · have e : say l s = l := if_pos hs
    have H := hid h
    subst hs
    clear hrow hown h
    go_enter Try.func16, Try.ntmps16
    go_wp2_with fail
    go_end0
    exact ⟨rfl, by rw [e]; exact H.out, Keeps.refl _, Below.refl _ _⟩
  · have e : Hid (say l s = l ++ [s]) := if_neg hs
    have h1 : s.toList.isEmpty = false := by
      rw [ByteArray.toList_eq]
      obtain ⟨⟨d⟩⟩ := s
      cases d with
      | nil => exact absurd rfl hs
      | cons a d => rfl
    generalize say l s = l2 at *
    obtain ⟨na, nc, hnv, hnle, hnmx⟩ := hown.form
    subst hnv
    have c1 : w.cell? ⟨nb, 0, none⟩ = some (.slice na l.length nc) := by rw [cell_of_row _ _ _ _ _ _ hrow]; rfl
    have b11 := below_alloc w (.cells #[.string s] 9)
    have r11 := heap_alloc_new w (.cells #[.string s] 9)
    have o11 := hown.below b11
    have q11 := hid (row_below hrow b11)
    have HB1 := hid (b11.mono hB)
    have K1 := hid (Keeps.below b11)
    go_enter Try.func16, Try.ntmps16
    go_wp2_with (at_builtin; refine hold ?_)
    unfold Hid
    refine wpList_append_at rfl _ _ 39 rfl B 9 ib (.string ⟨#[]⟩) 16 Try.underlying39 hib ib0 ib1 ib2 rfl (.slice na l.length nc) l.length (vsS l) rfl o11 ⟨w.heap.size, 0, none⟩ (.string s) rfl (by rw [cell_of_row _ _ _ _ _ _ r11]; rfl) rfl (by unfold maxLen; omega) (by omega) (by simp; omega) ?_
    intro v12 W12 o12 g12 fr12
    have hx : vsS l ++ [.string s] = vsS (l ++ [s]) := by rw [vsS_append]; rfl
    rw [hx] at o12
    obtain ⟨na2, nc2, hv12, hnle2, _⟩ := o12.form
    subst hv12
    have K2 := Keeps.own o11 g12
    have q12 : W12.heap[nb]? = some (.cells #[.slice na l.length nc] 39) := (g12.block nb (row_lt q11.out) (fun e => by
      rcases o11.ne q11.out (by decide) with h4 | h4
      · rw [h4] at e; cases e
      · exact h4 e.symm)).trans q11.out
    obtain ⟨q13, g13⟩ := set_row (cs' := #[.slice na2 (l.length + 1) nc2]) q12 0 (.slice na2 (l.length + 1) nc2) rfl
    have K3 := Keeps.box q12 g13
    have o13 := o12.kept g13 (o12.ne q12 (by decide))
    have hbk : ∀ k, (Value.slice na l.length nc).ownBlock = some k → B ≤ k := fun k e => (o11.lt k e).1
    have HB3 := hid ((HB1.out.grown g12 (by simp; omega) hbk).grown g13 (by have := g12.size; simp at this; omega) (fun k e => by cases e; exact hnB))
    have KK := hid ((K1.out.trans K2).trans K3)
    have f1 : W12.cell? ⟨nb, 0, none⟩ = some (.slice na l.length nc) := by rw [cell_of_row _ _ _ _ _ _ q12]; rfl
    have f2 : W12.frozen? ⟨nb, 0, none⟩ = false := frozen_row q12 0
    have Hfin : Hid (SB (W12.setCell ⟨nb, 0, none⟩ (.slice na2 (l.length + 1) nc2)) nb B (l ++ [s])) := ⟨⟨_, q13, by rw [List.length_append]; exact o13⟩, hnB⟩
    clear q12 q13 g12 g13 o12 o13 K2 K3 K1 q11 o11 hbk hrow hown h fr12 c1 b11 r11 hnle hnle2 hx
    go_wp2_with fail
    go_end0
    exact ⟨rfl, by rw [e.out]; exact Hfin.out, KK.out, HB3.out⟩
end Go.Proofs.Ytkgnelmnadnbhaa
