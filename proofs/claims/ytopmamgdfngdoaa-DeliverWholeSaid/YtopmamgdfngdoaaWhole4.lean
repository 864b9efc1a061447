/- deliver: rows of spans; Clone of bytes and of spans; in. -/
import Derived.Test.YtopmamgdfngdoaaWhole2
import Derived.Test.YtopmamgdfngdoaaWhole3
import Derived.WalkSpells
import Derived.Laws.StructEq
import Derived.Laws.Cover2
namespace Go.Proofs.Ytopmamgdfngdoaa
set_option linter.unusedVariables false
open Go.RowKit

theorem use_fr {P : Program} {N : Nat} {c : Code} {Q : Exit → Act → World → Prop} {t : Array Value} {w : World} (hs : t.size = N) (h : Code.wp P c Q ⟨fr N (fun i => t.getD i undef), []⟩ w) : Code.wp P c Q ⟨t, []⟩ w := by
  rw [fr_of hs]
  exact h
theorem q_frX {N : Nat} {Q : Exit → Act → World → Prop} {e : Exit} {Post : (Nat → Value) → World → Prop} {t : Array Value} {w : World} (hq : ∀ y' w', Post y' w' → Q e ⟨fr N y', []⟩ w') (hs : t.size = N) (hp : Post (fun i => t.getD i undef) w) : Q e ⟨t, []⟩ w := by
  rw [fr_of hs]
  exact hq _ _ hp
theorem Try.info5 : (Try.prog.info? 5).map (fun i => (i.zero, i.size, i.bytes)) = some (some (.int .u8 0), 1, 1) := by kernel_rfl
theorem Try.info84 : (Try.prog.info? 84).map (fun i => (i.zero, i.size, i.bytes)) = some (some (.agg #[.int .i64 0, .int .i64 0]), 2, 16) := by kernel_rfl
def sc (s : Sp) : List Value := [.int .i64 (s.1 : Int), .int .i64 (s.2 : Int)]
def spv (l : List Sp) : List Value := l.flatMap sc
theorem sc_len (s : Sp) : (sc s).length = 2 := rfl
theorem spv_len (l : List Sp) : (spv l).length = l.length * 2 := flat_len sc 2 sc_len l
theorem spv_one (l : List Sp) : ∀ u ∈ spv l, u.oneCell' = true := by
  intro u hu
  obtain ⟨s, _, hs⟩ := List.mem_flatMap.1 hu
  unfold sc at hs
  simp only [List.mem_cons, List.not_mem_nil, or_false] at hs
  rcases hs with rfl | rfl <;> rfl
/-- a slice of spans reads as l -/
structure RdS (w : World) (a : Option Addr) (n c : Nat) (l : List Sp) : Prop where
  ln : l.length = n
  le : n ≤ c
  max : c ≤ maxLen
  isnil : a = none → c = 0
  mem : 0 < n → ∃ b off cs, a = some ⟨b, off, none⟩ ∧ w.heap[b]? = some (.cells cs 84) ∧ ∀ j, j < n * 2 → cs[off + j]? = (spv l)[j]?
theorem RdS.below {w w' : World} {a : Option Addr} {n c : Nat} {l : List Sp} (h : RdS w a n c l) (hb : Below w.heap.size w w') : RdS w' a n c l :=
  ⟨h.ln, h.le, h.max, h.isnil, fun hn => by
    obtain ⟨b, off, cs, ha, hr, hc⟩ := h.mem hn
    exact ⟨b, off, cs, ha, row_below hr hb, hc⟩⟩
theorem RdS.nil (w : World) : RdS w none 0 0 [] := ⟨rfl, Nat.le_refl _, Nat.zero_le _, fun _ => rfl, fun h => by omega⟩
theorem RdS.at_ {w : World} {a : Option Addr} {n c : Nat} {l : List Sp} (h : RdS w a n c l) (j : Nat) (hj : j < n) : ∃ b off s, a = some ⟨b, off, none⟩ ∧ b < w.heap.size ∧ l[j]? = some s ∧ w.cell? ⟨b, off + j * 2, none⟩ = some (.int .i64 (s.1 : Int)) ∧ w.cell? ⟨b, off + j * 2 + 1, none⟩ = some (.int .i64 (s.2 : Int)) := by
  obtain ⟨b, off, cs, ha, hr, hc⟩ := h.mem (by omega)
  have hl := h.ln
  have hjl : j < l.length := by omega
  have h0 := hc (j * 2) (by omega)
  have h1 := hc (j * 2 + 1) (by omega)
  have e0 := flat_at sc 2 sc_len l j hjl 0 (by decide)
  have e1 := flat_at sc 2 sc_len l j hjl 1 (by decide)
  refine ⟨b, off, l[j], ha, row_lt hr, List.getElem?_eq_getElem hjl, ?_, ?_⟩
  · rw [cell_of_row _ _ _ _ _ _ hr, h0]
    exact e0
  · rw [cell_of_row _ _ _ _ _ _ hr, Nat.add_assoc, h1]
    exact e1
theorem RdS.ofOwn {w : World} {B n c : Nat} {a : Option Addr} {l : List Sp} (h : w.ownsRow B 84 2 (.slice a n c) n (spv l)) : RdS w a n c l := by
  have hl : l.length = n := by have := h.1; rw [spv_len] at this; omega
  rcases h.2 with ⟨h1, h2⟩ | ⟨g, cap, cur, h1, h2, h3, h4, h5, h6, h7⟩
  · injection h1 with e1 e2 e3
    subst e1 e3
    exact ⟨hl, by omega, Nat.zero_le _, fun _ => rfl, fun h => by omega⟩
  · injection h1 with e1 e2 e3
    subst e1 e3
    exact ⟨hl, h4, h5, (fun e => by cases e), fun hn => ⟨g, 0, cur, rfl, h3, fun j hj => by rw [Nat.zero_add, ← h.cellAt j hj, cell_of_row _ _ _ _ _ _ h3]⟩⟩
/-- it reads as xs, out of a block of type T -/
structure RdT (T : TypeId) (w : World) (ao : Option Addr) (n c : Nat) (xs : List Value) : Prop where
  rd : Rd w ao n c xs
  ty : 0 < n → ∃ b off cs, ao = some ⟨b, off, none⟩ ∧ w.heap[b]? = some (.cells cs T)
theorem RdT.below {T : TypeId} {w w' : World} {ao : Option Addr} {n c : Nat} {xs : List Value} (h : RdT T w ao n c xs) (hb : Below w.heap.size w w') : RdT T w' ao n c xs :=
  ⟨h.rd.below hb, fun hn => by
    obtain ⟨b, off, cs, h1, h2⟩ := h.ty hn
    exact ⟨b, off, cs, h1, row_below h2 hb⟩⟩
theorem RdT.kept {T : TypeId} {w w' : World} {ao : Option Addr} {n c : Nat} {xs : List Value} {row : Option Nat} (h : RdT T w ao n c xs) (hg : w.grownBy w' row) (hne : ∀ b cs, w.heap[b]? = some (.cells cs T) → row ≠ some b) : RdT T w' ao n c xs := by
  refine ⟨h.rd.grown hg (fun b off hn ha => ?_), fun hn => ?_⟩
  · obtain ⟨b', off', cs, h1, h2⟩ := h.ty hn
    rw [ha] at h1
    cases h1
    exact fun e => hne b cs h2 e.symm
  · obtain ⟨b', off', cs, h1, h2⟩ := h.ty hn
    exact ⟨b', off', cs, h1, (hg.block b' (row_lt h2) (fun e => hne b' cs h2 e.symm)).trans h2⟩
/-- one row of another type is turned -/
theorem RdT.other {T T' : TypeId} {w w' : World} {ao : Option Addr} {n c k : Nat} {xs : List Value} {cs : Array Value} (h : RdT T w ao n c xs) (hg : w.grownBy w' (some k)) (hk : w.heap[k]? = some (.cells cs T')) (hT : T ≠ T') : RdT T w' ao n c xs :=
  h.kept hg fun b cs' hb e => by
    cases e
    rw [hk] at hb
    injection hb with h1
    injection h1 with h2 h3
    exact hT h3.symm
theorem RdT.ofOwn {T : TypeId} {w : World} {B n c : Nat} {ao : Option Addr} {xs : List Value} (h : w.ownsRow B T 1 (.slice ao n c) n xs) : RdT T w ao n c xs := by
  refine ⟨Rd.ofOwn h, fun hn => ?_⟩
  rcases h.2 with ⟨h1, h2⟩ | ⟨g, cap, cur, h1, _, h3, _⟩
  · omega
  · cases h1
    exact ⟨g, 0, cur, rfl, h3⟩
theorem RdT.nil (T : TypeId) (w : World) : RdT T w none 0 0 [] := ⟨⟨rfl, Nat.le_refl _, Nat.zero_le _, fun _ => rfl, fun h => by omega⟩, fun h => by omega⟩
/-- the blocks of type T stay -/
def Stays (T : TypeId) (W W' : World) : Prop := ∀ (X : Nat) (cs : Array Value), W.heap[X]? = some (Obj.cells cs T) → W'.heap[X]? = some (Obj.cells cs T)
theorem Stays.refl (T : TypeId) (W : World) : Stays T W W := fun _ _ h => h
theorem Stays.trans {T : TypeId} {W W' W'' : World} (h : Stays T W W') (k : Stays T W' W'') : Stays T W W'' := fun X cs hx => k X cs (h X cs hx)
theorem Stays.ofBelow {T : TypeId} {W W' : World} (hb : Below W.heap.size W W') : Stays T W W' := fun X cs hx => row_below hx hb
theorem Stays.ofGrown {T : TypeId} {W W' : World} {row : Option Nat} (hg : W.grownBy W' row) (hne : ∀ b cs, W.heap[b]? = some (.cells cs T) → row ≠ some b) : Stays T W W' := fun X cs hx =>
  (hg.block X (row_lt hx) (fun e => hne X cs hx e.symm)).trans hx
theorem Stays.ofSet {T T' : TypeId} {W W' : World} {k : Nat} {cs : Array Value} (hg : W.grownBy W' (some k)) (hk : W.heap[k]? = some (.cells cs T')) (hT : T ≠ T') : Stays T W W' := Stays.ofGrown hg fun b cs' hb e => by
  cases e
  rw [hk] at hb
  injection hb with h1
  injection h1 with h2 h3
  exact hT h3.symm
theorem Stays.ofOwn {T e : TypeId} {B size n : Nat} {v : Value} {xs : List Value} {W W' : World} (hg : W.grownBy W' v.ownBlock) (ho : W.ownsRow B e size v n xs) (hT : e ≠ T) : Stays T W W' := Stays.ofGrown hg fun b cs' hb e => by
  rcases own_ne ho hb hT with h | h
  · rw [h] at e; cases e
  · exact h e
theorem RdT.stays {T : TypeId} {w w' : World} {ao : Option Addr} {n c : Nat} {xs : List Value} (h : RdT T w ao n c xs) (hs : Stays T w w') : RdT T w' ao n c xs := by
  refine ⟨⟨h.rd.len, h.rd.le, h.rd.max, h.rd.isnil, fun hn => ?_⟩, fun hn => ?_⟩
  · obtain ⟨b, off, ha, hlt, hc⟩ := h.rd.mem hn
    obtain ⟨b', off', cs, h1, h2⟩ := h.ty hn
    rw [ha] at h1
    cases h1
    refine ⟨b, off, ha, row_lt (hs _ _ h2), fun j hj => ?_⟩
    rw [← hc j hj, cell_of_row _ _ _ _ _ _ (hs _ _ h2), cell_of_row _ _ _ _ _ _ h2]
  · obtain ⟨b', off', cs, h1, h2⟩ := h.ty hn
    exact ⟨b', off', cs, h1, hs _ _ h2⟩
theorem RdS.stays {w w' : World} {a : Option Addr} {n c : Nat} {l : List Sp} (h : RdS w a n c l) (hs : Stays 84 w w') : RdS w' a n c l :=
  ⟨h.ln, h.le, h.max, h.isnil, fun hn => by
    obtain ⟨b, off, cs, ha, hr, hc⟩ := h.mem hn
    exact ⟨b, off, cs, ha, hs _ _ hr, hc⟩⟩
theorem own_stays {w w' : World} {B e size n : Nat} {v : Value} {xs : List Value} (h : w.ownsRow B e size v n xs) (hs : Stays e w w') : w'.ownsRow B e size v n xs := by
  refine ⟨h.1, ?_⟩
  rcases h.2 with h1 | ⟨g, cap, cur, h1, h2, h3, h4⟩
  · exact .inl h1
  · exact .inr ⟨g, cap, cur, h1, h2, hs _ _ h3, h4⟩
set_option maxRecDepth 1000000 in
theorem in_ok (n lo hi : Int) (w : World) (h0 : lo ≤ n) (h1 : n ≤ hi) : Calls Try.prog 9 #[.int .i64 n, .int .i64 lo, .int .i64 hi] w fun e w' => e = .returned (.bool true) ∧ w' = w := by
  have d1 : decide (lo ≤ n) = true := decide_eq_true h0
  have d2 : decide (n ≤ hi) = true := decide_eq_true h1
  go_enter Try.func9, Try.ntmps9
  go_wp2
  go_ret
  exact ⟨rfl, rfl⟩
theorem cloneB_nil (w : World) : Calls Try.prog 10 #[.slice none 0 0] w fun e w' => e = .returned (.slice none 0 0) ∧ Below w.heap.size w w' := by
  have hk := fun (w : World) => Lib.run_eql_slice_nil (P := Try.prog) w 22 5 none 0 0 0 0 Try.underlying22
  go_enter Try.func10, Try.ntmps10
  go_wp2
  go_ret
  exact ⟨rfl, Below.refl _ _⟩
theorem cloneB_some (a : Addr) (n cap : Nat) (bs : List Nat) (w : World) (hq : Rd w (some a) n cap (vb bs)) (hn : n ≤ 140737488355328) :
    Calls Try.prog 10 #[.slice (some a) n cap] w fun e w' => ∃ g c, e = .returned (.slice (some ⟨g, 0, none⟩) n c) ∧ w'.ownsRow w.heap.size 5 1 (.slice (some ⟨g, 0, none⟩) n c) n (vb bs) ∧ Below w.heap.size w w' := by
  obtain ⟨i0, hi, hz0, hz1, hz2⟩ := info_parts Try.info5
  have hk := fun (w : World) => Lib.run_eql_slice_nil (P := Try.prog) w 22 5 (some a) n cap 0 0 Try.underlying22
  have hn0 : (w.alloc (.cells #[] 5)).ownsRow w.heap.size 5 1 (.slice (some ⟨w.heap.size, 0, none⟩) 0 0) 0 [] := World.ownsRow_lit (base := w.heap.size) (e := 5) (size := 1) w #[] 0 (Nat.le_refl _) (Nat.zero_le _) rfl
  have hlen := hq.len
  have hcells : ∀ j u, (vb bs)[j]? = some u → (w.alloc (.cells #[] 5)).cell? (a.add j) = some u := by
    intro j u hj
    have hjn : j < n := by have := (List.getElem?_eq_some_iff.1 hj).1; omega
    obtain ⟨b, off, ha, hlt, hc⟩ := hq.mem (by omega)
    cases ha
    rw [Addr.add_lit, World.cell?_alloc_past _ _ _ hlt, hc j hjn]
    exact hj
  go_enter Try.func10, Try.ntmps10
  go_wp2_with (at_builtin; refine wpList_append_own _ rfl _ _ 22 rfl w.heap.size 5 i0 (.int .u8 0) 1 1 Try.underlying22 hi hz0 hz1 hz2 rfl (by decide) _ 0 [] rfl hn0 a n cap (vb bs) rfl ?c1 hcells (vb_oneCell bs) ?c2 ?c3 ?c4 ?_)
  case c1 => omega
  case c2 => unfold maxLen; omega
  case c3 => omega
  case c4 => simp
  intro v' w1 hown' hg hnil
  obtain ⟨ao, c, rfl, hc1, hc2, hc3⟩ := own_form hown'
  rcases hc3 with ⟨rfl, h0, h1⟩ | ⟨g, rfl, hg1, hg2⟩
  · exfalso
    simp_all
  go_wp2
  go_ret
  exact ⟨g, c, rfl, hown', ((Below.refl _ w).alloc (Nat.le_refl _) _).grown hg (by simp) (fun k e => by cases e; exact Nat.le_refl _)⟩
/-- Clone of bytes that read -/
theorem cloneB (ao : Option Addr) (n cap : Nat) (bs : List Nat) (w : World) (hq : Rd w ao n cap (vb bs)) (hn : n ≤ 140737488355328) :
    Calls Try.prog 10 #[.slice ao n cap] w fun e w' => ∃ ao' c, e = .returned (.slice ao' n c) ∧ w'.ownsRow w.heap.size 5 1 (.slice ao' n c) n (vb bs) ∧ Below w.heap.size w w' := by
  cases ao with
  | none =>
    obtain rfl := hq.isnil rfl
    obtain rfl : n = 0 := by have := hq.le; omega
    have hb : bs = [] := by have := hq.len; rw [vb_len] at this; exact List.eq_nil_of_length_eq_zero this
    subst hb
    exact (cloneB_nil w).mono fun e w' ⟨he, hb⟩ => ⟨none, 0, he, World.ownsRow_nil _ _ _ _, hb⟩
  | some a => exact (cloneB_some a n cap bs w hq hn).mono fun e w' ⟨g, c, he, ho, hb⟩ => ⟨_, c, he, ho, hb⟩
theorem cloneS_nil (w : World) : Calls Try.prog 41 #[.slice none 0 0] w fun e w' => e = .returned (.slice none 0 0) ∧ Below w.heap.size w w' := by
  have hk := fun (w : World) => Lib.run_eql_slice_nil (P := Try.prog) w 26 84 none 0 0 0 0 Try.underlying26
  go_enter Try.func41, Try.ntmps41
  go_wp2
  go_ret
  exact ⟨rfl, Below.refl _ _⟩
theorem cloneS_some (a : Addr) (n cap : Nat) (l : List Sp) (w : World) (hq : RdS w (some a) n cap l) (hn : n ≤ 1000000) :
    Calls Try.prog 41 #[.slice (some a) n cap] w fun e w' => ∃ g c, e = .returned (.slice (some ⟨g, 0, none⟩) n c) ∧ w'.ownsRow w.heap.size 84 2 (.slice (some ⟨g, 0, none⟩) n c) n (spv l) ∧ Below w.heap.size w w' := by
  obtain ⟨i0, hi, hz0, hz1, hz2⟩ := info_parts Try.info84
  have hk := fun (w : World) => Lib.run_eql_slice_nil (P := Try.prog) w 26 84 (some a) n cap 0 0 Try.underlying26
  have hn0 : (w.alloc (.cells #[] 84)).ownsRow w.heap.size 84 2 (.slice (some ⟨w.heap.size, 0, none⟩) 0 0) 0 [] := World.ownsRow_lit (base := w.heap.size) (e := 84) (size := 2) w #[] 0 (Nat.le_refl _) (Nat.zero_le _) rfl
  have hlen : (spv l).length = n * 2 := by rw [spv_len, hq.ln]
  have hcells : ∀ j u, (spv l)[j]? = some u → (w.alloc (.cells #[] 84)).cell? (a.add j) = some u := by
    intro j u hj
    have hjn : j < n * 2 := by have := (List.getElem?_eq_some_iff.1 hj).1; omega
    obtain ⟨b, off, cs, ha, hr, hc⟩ := hq.mem (by omega)
    cases ha
    rw [Addr.add_lit, World.cell?_alloc_past _ _ _ (row_lt hr), cell_of_row _ _ _ _ _ _ hr, hc j hjn]
    exact hj
  have hone := spv_one l
  clear hq
  generalize spv l = xs at *
  go_enter Try.func41, Try.ntmps41
  go_wp2_with (at_builtin; refine wpList_append_own _ rfl _ _ 26 rfl w.heap.size 84 i0 _ 2 16 Try.underlying26 hi hz0 hz1 hz2 rfl (by decide) _ 0 [] rfl hn0 a n cap xs rfl ?c1 hcells hone ?c2 ?c3 ?c4 ?_)
  case c1 => exact hlen
  case c2 => unfold maxLen; omega
  case c3 => omega
  case c4 => simp
  intro v' w1 hown' hg hnil
  obtain ⟨ao, c, rfl, hc1, hc2, hc3⟩ := own_form hown'
  rcases hc3 with ⟨rfl, h0, h1⟩ | ⟨g, rfl, hg1, hg2⟩
  · exfalso
    simp_all
  have HG := hid (((Below.refl w.heap.size w).alloc (Nat.le_refl _) (.cells #[] 84)).grown hg (by simp) (fun k e => by cases e; exact Nat.le_refl _))
  have HOw := hid hown'
  clear hown' hg hnil
  go_wp2
  go_ret
  exact ⟨g, c, rfl, HOw.out, HG.out⟩
theorem cloneS (ao : Option Addr) (n cap : Nat) (l : List Sp) (w : World) (hq : RdS w ao n cap l) (hn : n ≤ 1000000) :
    Calls Try.prog 41 #[.slice ao n cap] w fun e w' => ∃ ao' c, e = .returned (.slice ao' n c) ∧ w'.ownsRow w.heap.size 84 2 (.slice ao' n c) n (spv l) ∧ Below w.heap.size w w' := by
  cases ao with
  | none =>
    obtain rfl := hq.isnil rfl
    obtain rfl : n = 0 := by have := hq.le; omega
    have hb : l = [] := List.eq_nil_of_length_eq_zero hq.ln
    subst hb
    exact (cloneS_nil w).mono fun e w' ⟨he, hb⟩ => ⟨none, 0, he, World.ownsRow_nil _ _ _ _, hb⟩
  | some a => exact (cloneS_some a n cap l w hq hn).mono fun e w' ⟨g, c, he, ho, hb⟩ => ⟨_, c, he, ho, hb⟩
end Go.Proofs.Ytopmamgdfngdoaa
/- DeliverWhole, plain: rows of bytes, what is missing, what a note brings. -/
namespace Go.Proofs.Ytopmamgdfngdoaa
set_option linter.unusedVariables false

def Ris : Nat → List Sp → Prop
  | _, [] => True
  | b, s :: r => b ≤ s.1 ∧ s.1 < s.2 ∧ Ris (s.2 + 1) r
def inH (l : List Sp) (i : Nat) : Prop := ∃ s ∈ l, s.1 < i ∧ i ≤ s.2
theorem Ris.weak : ∀ {l : List Sp} {b b' : Nat}, Ris b l → b' ≤ b → Ris b' l
  | [], _, _, _, _ => trivial
  | s :: r, b, b', h, hb => ⟨Nat.le_trans hb h.1, h.2.1, h.2.2⟩
theorem inH_nil (i : Nat) : ¬ inH [] i := fun ⟨s, h, _⟩ => by cases h
theorem inH_cons (s : Sp) (r : List Sp) (i : Nat) : inH (s :: r) i ↔ (s.1 < i ∧ i ≤ s.2) ∨ inH r i := by
  constructor
  · rintro ⟨x, hx, h⟩
    rcases List.mem_cons.1 hx with rfl | hx
    · exact .inl h
    · exact .inr ⟨x, hx, h⟩
  · rintro (h | ⟨x, hx, h⟩)
    · exact ⟨s, List.mem_cons_self, h⟩
    · exact ⟨x, List.mem_cons_of_mem _ hx, h⟩
theorem Ris.lt : ∀ {l : List Sp} {b i : Nat}, Ris b l → inH l i → b < i
  | [], _, _, _, h => absurd h (inH_nil _)
  | s :: r, b, i, h, hi => by
    rcases (inH_cons s r i).1 hi with h1 | h1
    · have := h.1; omega
    · have := h.2.2.lt h1
      have := h.1
      have := h.2.1
      omega
theorem lay_ris : ∀ (l : List Sp) (m : Sp) (b : Nat), b ≤ m.1 → m.1 < m.2 → Ris b l → Ris b (layH m l)
  | [], m, b, h1, h2, _ => ⟨h1, h2, trivial⟩
  | s :: r, m, b, h1, h2, h => by
    unfold layH
    by_cases e1 : s.2 < m.1
    · rw [if_pos e1]
      exact ⟨h.1, h.2.1, lay_ris r m (s.2 + 1) (by omega) h2 h.2.2⟩
    · rw [if_neg e1]
      by_cases e2 : m.2 < s.1
      · rw [if_pos e2]
        exact ⟨h1, h2, lay_ris r s (m.2 + 1) (by omega) h.2.1 (h.2.2.weak (by have := h.2.1; omega))⟩
      · rw [if_neg e2]
        have k1 := h.1
        have k2 := h.2.1
        exact lay_ris r _ b (by show b ≤ min m.1 s.1; omega) (by show min m.1 s.1 < max m.2 s.2; omega) (h.2.2.weak (by omega))
theorem lay_in : ∀ (l : List Sp) (m : Sp) (i : Nat), m.1 < m.2 → (∀ s ∈ l, s.1 < s.2) → (inH (layH m l) i ↔ (m.1 < i ∧ i ≤ m.2) ∨ inH l i)
  | [], m, i, _, _ => by
    unfold layH
    rw [inH_cons]
  | s :: r, m, i, hm, hs => by
    have hs0 := hs s List.mem_cons_self
    have hr : ∀ x ∈ r, x.1 < x.2 := fun x hx => hs x (List.mem_cons_of_mem _ hx)
    unfold layH
    by_cases e1 : s.2 < m.1
    · rw [if_pos e1, inH_cons, inH_cons, lay_in r m i hm hr]
      constructor
      · rintro (h | h | h)
        · exact .inr (.inl h)
        · exact .inl h
        · exact .inr (.inr h)
      · rintro (h | h | h)
        · exact .inr (.inl h)
        · exact .inl h
        · exact .inr (.inr h)
    · rw [if_neg e1]
      by_cases e2 : m.2 < s.1
      · rw [if_pos e2, inH_cons, inH_cons, lay_in r s i hs0 hr]
      · rw [if_neg e2, inH_cons, lay_in r _ i (by show min m.1 s.1 < max m.2 s.2; omega) hr]
        have e3 : (min m.1 s.1 < i ∧ i ≤ max m.2 s.2) ↔ (m.1 < i ∧ i ≤ m.2) ∨ (s.1 < i ∧ i ≤ s.2) := by omega
        show (min m.1 s.1 < i ∧ i ≤ max m.2 s.2) ∨ inH r i ↔ _
        rw [e3, or_assoc]
theorem lay_top : ∀ (l : List Sp) (m : Sp) (F : Nat), m.2 ≤ F → (∀ s ∈ l, s.2 ≤ F) → ∀ s ∈ layH m l, s.2 ≤ F
  | [], m, F, hm, _, s, hs => by
    unfold layH at hs
    rw [List.mem_singleton] at hs
    subst hs
    exact hm
  | x :: r, m, F, hm, hl, s, hs => by
    have hx := hl x List.mem_cons_self
    have hr : ∀ s ∈ r, s.2 ≤ F := fun s h => hl s (List.mem_cons_of_mem _ h)
    unfold layH at hs
    split at hs
    · rcases List.mem_cons.1 hs with rfl | h
      · exact hx
      · exact lay_top r m F hm hr s h
    · split at hs
      · rcases List.mem_cons.1 hs with rfl | h
        · exact hm
        · exact lay_top r x F hx hr s h
      · exact lay_top r _ F (by show max m.2 x.2 ≤ F; omega) hr s hs
theorem Ris.each : ∀ {l : List Sp} {b : Nat}, Ris b l → ∀ s ∈ l, s.1 < s.2
  | [], _, _, s, hs => by cases hs
  | x :: r, b, h, s, hs => by
    rcases List.mem_cons.1 hs with rfl | h1
    · exact h.2.1
    · exact h.2.2.each s h1
theorem gaps_ok (F : Nat) : ∀ (l : List Sp) (x : Nat), (∀ y z, x = y → Ris z l → z ≤ x + 1 → (∀ i, inH l i → x < i) → ∀ e ∈ gapsF F x l, e.1 < e.2 ∧ e.2 ≤ F ∧ x ≤ e.1 ∧ ∀ i, e.1 < i → i ≤ e.2 → ¬ inH l i)
  | [], x, y, z, _, _, _, _, e, he => by
    unfold gapsF at he
    split at he
    · rw [List.mem_singleton] at he
      subst he
      exact ⟨by assumption, Nat.le_refl _, Nat.le_refl _, fun i _ _ => inH_nil i⟩
    · cases he
  | s :: r, x, y, z, _, h, hz, hx, e, he => by
    unfold gapsF at he
    rcases List.mem_append.1 he with h1 | h1
    · split at h1
      · rename_i hlt
        rw [List.mem_singleton] at h1
        subst h1
        refine ⟨hlt, Nat.min_le_right _ _, Nat.le_refl _, fun i hi1 hi2 hin => ?_⟩
        have hi3 : i ≤ min s.1 F := hi2
        rcases (inH_cons s r i).1 hin with k | k
        · omega
        · have := h.2.2.lt k
          have := h.2.1
          omega
      · cases h1
    · have h2 := gaps_ok F r s.2 s.2 (s.2 + 1) rfl h.2.2 (Nat.le_refl _) (fun i hi => by have := h.2.2.lt hi; omega) e h1
      obtain ⟨k1, k2, k3, k4⟩ := h2
      have hs := h.2.1
      have hxs : x < s.1 + 1 := hx (s.1 + 1) ((inH_cons _ _ _).2 (.inl ⟨by omega, by omega⟩))
      refine ⟨k1, k2, by omega, fun i hi1 hi2 hin => ?_⟩
      rcases (inH_cons s r i).1 hin with k | k
      · omega
      · exact k4 i hi1 hi2 k
theorem gaps_none (F : Nat) (l : List Sp) (h : Ris 0 l) (hg : gapsF F 0 l = []) : allH F l = true := by
  unfold allH
  cases l with
  | nil =>
    unfold gapsF at hg
    split at hg
    · cases hg
    · rw [Bool.or_eq_true, decide_eq_true_eq]
      left; omega
  | cons s r =>
    unfold gapsF at hg
    obtain ⟨h1, h2⟩ := List.append_eq_nil_iff.1 hg
    by_cases hF : F = 0
    · rw [decide_eq_true hF]; rfl
    · split at h1
      · cases h1
      · have hs1 : s.1 = 0 := by omega
        have hs2 : F ≤ s.2 := by
          cases r with
          | nil =>
            unfold gapsF at h2
            split at h2
            · cases h2
            · omega
          | cons s' r' =>
            unfold gapsF at h2
            obtain ⟨h3, _⟩ := List.append_eq_nil_iff.1 h2
            have := h.2.2.1
            split at h3
            · cases h3
            · omega
        rw [Bool.or_eq_true]
        right
        show (decide (s.1 = 0) && decide (F ≤ s.2)) = true
        rw [decide_eq_true hs1, decide_eq_true hs2]
        rfl
theorem all_in {F : Nat} {l : List Sp} (h : allH F l = true) {i : Nat} (h0 : 0 < i) (hi : i ≤ F) : inH l i := by
  unfold allH at h
  rw [Bool.or_eq_true, decide_eq_true_eq] at h
  rcases h with h | h
  · omega
  · cases l with
    | nil => cases h
    | cons s r =>
      have h' : (decide (s.1 = 0) && decide (F ≤ s.2)) = true := h
      rw [Bool.and_eq_true, decide_eq_true_eq, decide_eq_true_eq] at h'
      exact (inH_cons _ _ _).2 (.inl ⟨by omega, by omega⟩)
end Go.Proofs.Ytopmamgdfngdoaa
/- DeliverWhole, plain: what holds of both sides, and that each step keeps it. -/
namespace Go.Proofs.Ytopmamgdfngdoaa
set_option linter.unusedVariables false

def vSp (F : Nat) (s : Sp) : Prop := s = (0, 0) ∨ (s.1 < s.2 ∧ s.2 ≤ F)
def vD (P : Par) (gs : Nat) : NT → Prop
  | .nm => True
  | .np x y => x < y ∧ y ≤ P.F ∧ y - x ≤ P.m
  | .ne => 1 ≤ gs
  | .sd => gs = 3
  | _ => False
def vU (P : Par) (gs ts : Nat) : NT → Prop
  | .ng l => l ≠ [] ∧ l.length ≤ 20 ∧ (∀ s ∈ l, vSp P.F s) ∧ 1 ≤ gs
  | .nd => ts = 3
  | .se => 1 ≤ gs
  | _ => False
structure GI (P : Par) (g : GS) : Prop where
  st : g.st ≤ 3
  pos : g.pos ≤ P.F
  od : g.st ≠ 0 → g.pos = P.F ∧ g.fi = false
  len : g.ag.length ≤ 1000
  sp : ∀ s ∈ g.ag, vSp P.F s
  tm : g.tm < P.p
  tr : g.tr ≤ 100
  a0 : g.st = 0 → g.ag = []
structure TI (P : Par) (t : TS) : Prop where
  st : t.st = 0 ∨ t.st = 3
  ris : Ris 0 t.hv
  top : ∀ s ∈ t.hv, s.2 ≤ P.F
  ov : t.st = 3 → t.kn = true ∧ t.en = true ∧ allH P.F t.hv = true
  un : t.st = 0 → (t.kn && t.en && allH P.F t.hv) = false
  tm : t.tm < P.p
  tr : t.tr ≤ 100
theorem vD_mono {P : Par} {a b : Nat} {n : NT} (h : vD P a n) (h1 : a ≤ b) (h2 : a = 3 → b = 3) : vD P b n := by
  cases n with
  | nm => trivial
  | np x y => exact h
  | ne => exact Nat.le_trans h h1
  | sd => exact h2 h
  | ng l => exact h
  | nd => exact h
  | se => exact h
theorem vU_mono {P : Par} {a b c d : Nat} {n : NT} (h : vU P a c n) (h1 : a ≤ b) (h2 : c = 3 → d = 3) : vU P b d n := by
  cases n with
  | ng l => exact ⟨h.1, h.2.1, h.2.2.1, Nat.le_trans h.2.2.2 h1⟩
  | nd => exact h2 h
  | se => exact Nat.le_trans h h1
  | nm => exact h
  | np x y => exact h
  | ne => exact h
  | sd => exact h
-- the giver
theorem GI.again {P : Par} {g : GS} {s : Sp} {r : List Sp} (h : GI P g) (ha : g.ag = s :: r) (hm : 0 < P.m) : GI P (againG P g s r).1 ∧ vD P g.st (againG P g s r).2 ∧ (againG P g s r).1.st = g.st ∧ (againG P g s r).1.fi = g.fi ∧ (againG P g s r).1.pos = g.pos ∧ (againG P g s r).1.tm = g.tm ∧ (againG P g s r).1.tr = g.tr := by
  obtain ⟨h1, h2, h3, h4, h5, h6, h7, h8⟩ := h
  have hs := h5 s (by rw [ha]; exact List.mem_cons_self)
  have hr : ∀ x ∈ r, vSp P.F x := fun x hx => h5 x (by rw [ha]; exact List.mem_cons_of_mem _ hx)
  have hl : r.length + 1 ≤ 1000 := by rw [ha] at h4; exact h4
  have h0 : g.st ≠ 0 := fun e => by have := h8 e; rw [ha] at this; cases this
  unfold againG
  by_cases e1 : s = (0, 0)
  · rw [if_pos e1]
    exact ⟨⟨h1, h2, h3, by show r.length ≤ 1000; omega, hr, h6, h7, fun e => absurd e h0⟩, trivial, rfl, rfl, rfl, rfl, rfl⟩
  · rw [if_neg e1]
    rcases hs with hs | ⟨hs1, hs2⟩
    · exact absurd hs e1
    · by_cases e2 : min s.2 (s.1 + P.m) = s.2
      · rw [if_pos e2]
        exact ⟨⟨h1, h2, h3, by show r.length ≤ 1000; omega, hr, h6, h7, fun e => absurd e h0⟩, ⟨by omega, by omega, by omega⟩, rfl, rfl, rfl, rfl, rfl⟩
      · rw [if_neg e2]
        refine ⟨⟨h1, h2, h3, hl, fun x hx => ?_, h6, h7, fun e => absurd e h0⟩, ⟨by omega, by omega, by omega⟩, rfl, rfl, rfl, rfl, rfl⟩
        rcases List.mem_cons.1 hx with rfl | hx
        · exact .inr ⟨by show min s.2 (s.1 + P.m) < s.2; omega, hs2⟩
        · exact hr x hx
theorem GI.next {P : Par} {g : GS} (h : GI P g) (hm : 0 < P.m) (hp : 0 < P.p) : GI P (nextG P g).g ∧ (∀ n ∈ (nextG P g).o, vD P (nextG P g).g.st n) ∧ g.st ≤ (nextG P g).g.st ∧ ((nextG P g).g.st = 3 → g.st = 3) ∧ (nextG P g).g.tr ≤ g.tr ∧ (nextG P g).o.length ≤ 1 := by
  have hh := h
  obtain ⟨h1, h2, h3, h4, h5, h6, h7, h8⟩ := h
  unfold nextG
  split
  · rename_i hf
    refine ⟨⟨h1, h2, fun e => ⟨(h3 e).1, rfl⟩, h4, h5, h6, h7, h8⟩, fun n hn => ?_, Nat.le_refl _, id, Nat.le_refl _, Nat.le_refl _⟩
    rw [List.mem_singleton] at hn
    subst hn
    trivial
  · rename_i hf
    split
    · rename_i s r ha
      obtain ⟨k1, k2, k3, k4, k5, k6, k7⟩ := hh.again ha hm
      refine ⟨k1, fun n hn => ?_, by show g.st ≤ (againG P g s r).1.st; rw [k3]; exact Nat.le_refl _, fun e => by rw [← k3]; exact e, by show (againG P g s r).1.tr ≤ g.tr; rw [k7]; exact Nat.le_refl _, Nat.le_refl _⟩
      rw [List.mem_singleton] at hn
      subst hn
      show vD P (againG P g s r).1.st _
      rw [k3]
      exact k2
    · rename_i ha
      split
      · exact ⟨⟨h1, h2, h3, h4, h5, h6, h7, h8⟩, (fun n hn => by cases hn), Nat.le_refl _, id, Nat.le_refl _, Nat.zero_le _⟩
      · rename_i hst
        have hst0 : g.st = 0 := by omega
        split
        · rename_i hlt
          refine ⟨⟨h1, by show min P.F (g.pos + P.m) ≤ P.F; omega, fun e => absurd hst0 e, h4, h5, h6, h7, h8⟩, fun n hn => ?_, Nat.le_refl _, id, Nat.le_refl _, Nat.le_refl _⟩
          rw [List.mem_singleton] at hn
          subst hn
          exact ⟨by omega, by omega, by omega⟩
        · rename_i hlt
          refine ⟨⟨by show 1 ≤ 3; omega, h2, fun _ => ⟨by show g.pos = P.F; omega, by show g.fi = false; exact Bool.eq_false_iff.2 hf⟩, h4, h5, hp, Nat.zero_le _, (fun e => by cases e)⟩, fun n hn => ?_, by show g.st ≤ 1; omega, (fun e => by cases e), Nat.zero_le _, Nat.le_refl _⟩
          rw [List.mem_singleton] at hn
          subst hn
          exact Nat.le_refl _
theorem GI.loop {P : Par} (hm : 0 < P.m) (hp : 0 < P.p) : ∀ (f : Nat) (g : GS), GI P g → GI P (loopG P f g).1 ∧ (∀ n ∈ (loopG P f g).2, vD P (loopG P f g).1.st n) ∧ g.st ≤ (loopG P f g).1.st ∧ ((loopG P f g).1.st = 3 → g.st = 3) ∧ (loopG P f g).1.tr ≤ g.tr ∧ (loopG P f g).2.length ≤ f
  | 0, g, h => ⟨h, (fun n hn => by cases hn), Nat.le_refl _, id, Nat.le_refl _, Nat.zero_le _⟩
  | f + 1, g, h => by
    obtain ⟨a1, a2, a3, a4, a5, a6⟩ := h.next hm hp
    unfold loopG
    split
    · obtain ⟨b1, b2, b3, b4, b5, b6⟩ := GI.loop hm hp f _ a1
      refine ⟨b1, fun n hn => ?_, Nat.le_trans a3 b3, fun e => a4 (b4 e), Nat.le_trans b5 a5, by rw [List.length_append]; omega⟩
      rcases List.mem_append.1 hn with k | k
      · exact vD_mono (a2 n k) b3 (fun e => by show (loopG P f (nextG P g).g).1.st = 3; have := b1.st; omega)
      · exact b2 n k
    · exact ⟨a1, a2, a3, a4, a5, Nat.le_trans a6 (by omega)⟩
theorem GI.wait {P : Par} {g : GS} (h : GI P g) (hp : 0 < P.p) (h0 : g.st ≠ 0) (htr : g.tr < 100) : GI P (waitG P g).1 ∧ (∀ n ∈ (waitG P g).2, vD P (waitG P g).1.st n) ∧ (waitG P g).1.st = g.st ∧ (waitG P g).1.tr ≤ g.tr + 1 ∧ (waitG P g).2.length ≤ 1 ∧ (waitG P g).1.ag = g.ag := by
  obtain ⟨h1, h2, h3, h4, h5, h6, h7, h8⟩ := h
  unfold waitG
  split
  · exact ⟨⟨h1, h2, h3, h4, h5, by assumption, h7, h8⟩, (fun n hn => by cases hn), rfl, Nat.le_succ _, Nat.zero_le _, rfl⟩
  · rw [if_neg (by omega)]
    refine ⟨⟨h1, h2, h3, h4, h5, hp, by show g.tr + 1 ≤ 100; omega, h8⟩, fun n hn => ?_, rfl, Nat.le_refl _, Nat.le_refl _, rfl⟩
    rw [List.mem_singleton] at hn
    subst hn
    show 1 ≤ g.st
    omega
theorem GI.give {P : Par} {g : GS} (h : GI P g) (hm : 0 < P.m) (hp : 0 < P.p) (htr : g.tr < 100) : GI P (giveG P g).1 ∧ (∀ n ∈ (giveG P g).2, vD P (giveG P g).1.st n) ∧ g.st ≤ (giveG P g).1.st ∧ ((giveG P g).1.st = 3 → g.st = 3) ∧ (giveG P g).1.tr ≤ g.tr + 1 ∧ (giveG P g).2.length ≤ P.b + 1 := by
  unfold giveG
  split
  · exact ⟨h, (fun n hn => by cases hn), Nat.le_refl _, id, Nat.le_succ _, Nat.zero_le _⟩
  · obtain ⟨b1, b2, b3, b4, b5, b6⟩ := GI.loop hm hp P.b g h
    split
    · obtain ⟨c1, c2, c3, c4, c5, _⟩ := b1.wait hp (by omega) (by omega)
      refine ⟨c1, fun n hn => ?_, by show g.st ≤ (waitG P _).1.st; rw [c3]; exact b3, fun e => b4 (by rw [← c3]; exact e), by show (waitG P _).1.tr ≤ _; omega, by rw [List.length_append]; omega⟩
      rcases List.mem_append.1 hn with k | k
      · show vD P (waitG P _).1.st n
        rw [c3]
        exact b2 n k
      · exact c2 n k
    · exact ⟨b1, b2, b3, b4, by omega, by omega⟩
theorem asked_ok (F : Nat) : ∀ (l ag : List Sp), ag.length ≤ 1000 → (∀ s ∈ ag, vSp F s) → (∀ s ∈ l, vSp F s) → (askedG F ag l).length ≤ 1000 ∧ (∀ s ∈ askedG F ag l, vSp F s)
  | [], ag, h1, h2, _ => ⟨h1, h2⟩
  | s :: r, ag, h1, h2, h3 => by
    unfold askedG
    refine asked_ok F r _ ?_ ?_ (fun x hx => h3 x (List.mem_cons_of_mem _ hx))
    · split
      · rw [List.length_append]; simp; omega
      · exact h1
    · split
      · intro x hx
        rcases List.mem_append.1 hx with k | k
        · exact h2 x k
        · rw [List.mem_singleton] at k
          subst k
          rcases h3 s List.mem_cons_self with e | ⟨e1, e2⟩
          · subst e
            left
            show ((0 : Nat), min 0 F) = (0, 0)
            rw [Nat.zero_min]
          · right
            refine ⟨by show s.1 < min s.2 F; omega, by show min s.2 F ≤ F; omega⟩
      · exact h2
theorem GI.reply {P : Par} {g : GS} {ts : Nat} {n : NT} (h : GI P g) (hp : 0 < P.p) (hn : vU P g.st ts n) : GI P (replyG P g n).1 ∧ (∀ k ∈ (replyG P g n).2, vD P (replyG P g n).1.st k) ∧ g.st ≤ (replyG P g n).1.st ∧ ((replyG P g n).1.st = 3 → g.st = 3 ∨ ts = 3) ∧ (replyG P g n).1.tr ≤ g.tr ∧ (replyG P g n).2.length ≤ 1 ∧ ((replyG P g n).1.st ≠ 3 → (replyG P g n).2 = []) := by
  have hh := h
  obtain ⟨h1, h2, h3, h4, h5, h6, h7, h8⟩ := h
  cases n with
  | nd =>
    unfold replyG
    dsimp only
    split
    · rename_i e
      refine ⟨hh, fun k hk => ?_, Nat.le_refl _, fun _ => .inl e, Nat.le_refl _, Nat.le_refl _, fun h => absurd e h⟩
      rw [List.mem_singleton] at hk
      subst hk
      exact e
    · refine ⟨⟨Nat.le_refl _, Nat.le_refl _, fun _ => ⟨rfl, rfl⟩, Nat.zero_le _, (fun s hs => by cases hs), h6, h7, (fun e => rfl)⟩, fun k hk => ?_, h1, fun _ => .inr hn, Nat.le_refl _, Nat.le_refl _, fun h => absurd rfl h⟩
      rw [List.mem_singleton] at hk
      subst hk
      exact rfl
  | ng l =>
    unfold replyG
    dsimp only
    obtain ⟨n1, n2, n3, n4⟩ := hn
    split
    · exact ⟨hh, (fun k hk => by cases hk), Nat.le_refl _, fun e => .inl e, Nat.le_refl _, Nat.zero_le _, fun _ => rfl⟩
    · obtain ⟨a1, a2⟩ := asked_ok P.F l g.ag h4 h5 n3
      exact ⟨⟨h1, h2, h3, a1, a2, hp, Nat.zero_le _, fun e => by have e' : g.st = 0 := e; omega⟩, (fun k hk => by cases hk), Nat.le_refl _, fun e => .inl e, Nat.zero_le _, Nat.zero_le _, fun _ => rfl⟩
  | se =>
    unfold replyG
    dsimp only
    have n4 : 1 ≤ g.st := hn
    split
    · exact ⟨hh, (fun k hk => by cases hk), Nat.le_refl _, fun e => .inl e, Nat.le_refl _, Nat.zero_le _, fun _ => rfl⟩
    · rename_i e3
      by_cases e1 : g.st = 1
      · rw [if_pos e1]
        exact ⟨⟨by show 2 ≤ 3; omega, h2, fun _ => h3 (by omega), h4, h5, hp, Nat.zero_le _, (fun e => by cases e)⟩, (fun k hk => by cases hk), by show g.st ≤ 2; omega, (fun e => by cases e), Nat.zero_le _, Nat.zero_le _, fun _ => rfl⟩
      · rw [if_neg e1]
        exact ⟨⟨h1, h2, h3, h4, h5, hp, Nat.zero_le _, h8⟩, (fun k hk => by cases hk), Nat.le_refl _, fun e => .inl e, Nat.zero_le _, Nat.zero_le _, fun _ => rfl⟩
  | nm => exact absurd hn id
  | np x y => exact absurd hn id
  | ne => exact absurd hn id
  | sd => exact absurd hn id
end Go.Proofs.Ytopmamgdfngdoaa
/- deliver: a span that may be. -/
namespace Go.Proofs.Ytopmamgdfngdoaa
set_option linter.unusedVariables false
open Go.RowKit

theorem eq99 (a b c d : Int) (w : World) : (Op.equalIn 10000 99 (.agg #[.int .i64 a, .int .i64 b]) (.agg #[.int .i64 c, .int .i64 d])).run Try.prog w = .ok (a == c && b == d) w := by
  have u3 := Try.underlying3
  have a3 := Try.isAgg3
  have z3 := Try.sizeOf3
  rw [show (10000 : Nat) = 9999 + 1 from rfl, Op.equalIn]
  simp only [Sem.run_bind, run_underlying Try.underlying99, Result.andThen_ok]
  simp only [Std.Legacy.Range.forIn_eq_forIn_range', Std.Legacy.Range.size, Nat.sub_zero, Nat.add_sub_cancel, Nat.div_one, List.range'_succ, List.range'_zero, List.forIn_cons, List.forIn_nil]
  go_simp
  by_cases h1 : a = c <;> by_cases h2 : b = d <;> simp [h1, h2]
theorem eq84 (a b c d : Int) (w : World) : (Op.equalIn 10000 84 (.agg #[.int .i64 a, .int .i64 b]) (.agg #[.int .i64 c, .int .i64 d])).run Try.prog w = .ok (a == c && b == d) w := by
  have u3 := Try.underlying3
  have a3 := Try.isAgg3
  have z3 := Try.sizeOf3
  rw [show (10000 : Nat) = 9999 + 1 from rfl, Op.equalIn]
  simp only [Sem.run_bind, run_underlying Try.underlying84, Result.andThen_ok]
  simp only [Std.Legacy.Range.forIn_eq_forIn_range', Std.Legacy.Range.size, Nat.sub_zero, Nat.add_sub_cancel, Nat.div_one, List.range'_succ, List.range'_zero, List.forIn_cons, List.forIn_nil]
  go_simp
  by_cases h1 : a = c <;> by_cases h2 : b = d <;> simp [h1, h2]
set_option maxRecDepth 1000000 in
theorem span_ok (s : Sp) (F : Nat) (w : World) (h : vSp F s) (hF : F ≤ 65536) : Calls Try.prog 53 #[.agg #[.int .i64 (s.1 : Int), .int .i64 (s.2 : Int)], .int .i64 (F : Int)] w fun e w' => e = .returned (.bool true) ∧ Below w.heap.size w w' := by
  have bN := below_alloc w (.cells #[.int .i64 (s.1 : Int), .int .i64 (s.2 : Int)] 99)
  have A := heap_alloc_new w (.cells #[.int .i64 (s.1 : Int), .int .i64 (s.2 : Int)] 99)
  obtain ⟨x, y⟩ := s
  dsimp only at *
  have c0 : (w.alloc (.cells #[.int .i64 (x : Int), .int .i64 (y : Int)] 99)).cell? ⟨w.heap.size, 0, none⟩ = some (.int .i64 (x : Int)) := by rw [cell_of_row _ _ _ _ _ _ A]; rfl
  have c1 : (w.alloc (.cells #[.int .i64 (x : Int), .int .i64 (y : Int)] 99)).cell? ⟨w.heap.size, 1, none⟩ = some (.int .i64 (y : Int)) := by rw [cell_of_row _ _ _ _ _ _ A]; rfl
  have heq := eq99
  rcases h with h | ⟨h1, h2⟩
  · obtain ⟨rfl, rfl⟩ : x = 0 ∧ y = 0 := by injection h with h1 h2; exact ⟨h1, h2⟩
    go_enter Try.func53, Try.ntmps53
    go_wp2_with fail
    go_ret
    exact ⟨rfl, bN⟩
  · have d0 : ¬ y = 0 := by omega
    have d1 : (0 : Int) ≤ (x : Int) := by omega
    have d2 : (x : Int) < (y : Int) := by omega
    have d3 : (y : Int) ≤ (F : Int) := by omega
    have h1' : x < y := h1
    have h2' : y ≤ F := h2
    go_enter Try.func53, Try.ntmps53
    go_wp2_with fail
    go_ret
    exact ⟨rfl, bN⟩
end Go.Proofs.Ytopmamgdfngdoaa
