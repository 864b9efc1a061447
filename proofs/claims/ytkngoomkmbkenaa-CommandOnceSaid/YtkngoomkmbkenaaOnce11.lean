/- CommandOnce, plain: a hand, a gate, and what is between them. -/
import Derived.WalkKit
import Derived.Test.YtkngoomkmbkenaaOnce10
import Derived.Test.YtkngoomkmbkenaaOnce1
namespace Go.Proofs.Ytkngoomkmbkenaa
set_option linter.unusedVariables false

/-- a hand: the number of the next new one, the first that is not known to be there, how many were asked for; timer, tries, since; it stands still -/
structure HS where
  N : Nat
  b : Nat
  A : Nat
  tm : Nat
  tr : Nat
  si : Nat
  hl : Bool
structure LK where
  h : HS
  r : Nat
  wt : Bool
  ag : Bool
  way : List Nat
  old : List Nat
  dr : Nat
  dw : Bool
  da : Bool
  hd : Bool
def hearH (x : HS) (dr : Nat) : HS := if x.b < dr then { x with b := dr, tm := 0, tr := 0 } else x
structure LT where
  x : HS
  up : List Nat
  go : Bool
def lateH (pt : Nat) (x : HS) (wished : Bool) : LT :=
  if x.b = x.N then ⟨{ x with tm := 0 }, [], true⟩
  else if wished = false ∧ x.tm + 1 < pt then ⟨{ x with tm := x.tm + 1 }, [], true⟩
  else if x.tr = 100 then ⟨{ x with tm := 0, si := 0, hl := true }, [], false⟩
  else ⟨{ x with tm := 0, si := 0, tr := x.tr + 1 }, List.range' x.b (x.N - x.b), true⟩
def nMore (ah : Nat) (x : HS) : Nat := min (ah - (x.N - x.b)) (x.A - x.N)
def moreH (ah : Nat) (x : HS) : HS × List Nat := ({ x with N := x.N + nMore ah x }, List.range' x.N (nMore ah x))
def midH (pz : Nat) (x : HS) (hd : Bool) (dr : Nat) : HS := if hd = true then hearH { x with si := min (x.si + 1) pz } dr else { x with si := min (x.si + 1) pz }
def stepH (ah pt pz : Nat) (x : HS) (hd : Bool) (dr : Nat) (dw da : Bool) : HS × List Nat :=
  if x.hl = true then (x, []) else
  let x2 := midH pz x hd dr
  let t := lateH pt x2 (hd && da && !dw && x2.si == pz)
  if (t.go && !(hd && dw)) = true then ((moreH ah t.x).1, t.up ++ (moreH ah t.x).2) else (t.x, t.up)
def arrive (l : LK) (i : Nat) (room : Bool) : LK :=
  if i = l.r then (if room = true then { l with r := l.r + 1, wt := false, ag := false } else { l with wt := true, ag := true })
  else if l.r < i then { l with ag := true } else l
def comes (room : Bool) (lz : Nat → Bool) : Nat → Nat → LK → LK
  | _, 0, l => l
  | i, f + 1, l => match l.way with
    | [] => l
    | b :: ws => comes room lz (i + 1) f (if lz i = true then { l with way := ws } else arrive { l with way := ws } b room)
/-- what holds of a link -/
structure Inv (ah pt pz : Nat) (l : LK) : Prop where
  br : l.h.b ≤ l.r
  rN : l.r ≤ l.h.N
  NA : l.h.N ≤ l.h.A
  A1 : l.h.A ≤ 100
  ah : l.h.N - l.h.b ≤ ah
  tm : l.h.tm < pt
  tr : l.h.tr ≤ 100
  si : l.h.si ≤ pz
  way : ∀ i ∈ l.way, i < l.h.N
  old : ∀ i ∈ l.old, i < l.h.N
  wt : l.wt = true → l.r < l.h.N
  dr : l.dr ≤ l.r
  db : l.hd = true → l.h.b ≤ l.dr
  dw : l.dw = true → l.dr < l.h.N
  hl : l.h.hl = true → 0 < l.h.A
theorem arrive_facts (l : LK) (i : Nat) (room : Bool) : (arrive l i room).h = l.h ∧ (arrive l i room).way = l.way ∧ (arrive l i room).old = l.old ∧ (arrive l i room).dr = l.dr ∧ (arrive l i room).dw = l.dw ∧ (arrive l i room).da = l.da ∧ (arrive l i room).hd = l.hd := by
  unfold arrive
  split
  · split <;> exact ⟨rfl, rfl, rfl, rfl, rfl, rfl, rfl⟩
  · split <;> exact ⟨rfl, rfl, rfl, rfl, rfl, rfl, rfl⟩
theorem Inv.arr {ah pt pz : Nat} {l : LK} (h : Inv ah pt pz l) {i : Nat} (hi : i < l.h.N) (room : Bool) : Inv ah pt pz (arrive l i room) := by
  obtain ⟨h1, h2, h3, h4, h5, h6, h7, h8, h9, h10, h11, h12, h13, h14, h15⟩ := h
  unfold arrive
  by_cases e : i = l.r
  · rw [if_pos e]
    by_cases er : room = true
    · rw [if_pos er]
      exact ⟨by show l.h.b ≤ l.r + 1; omega, by show l.r + 1 ≤ l.h.N; omega, h3, h4, h5, h6, h7, h8, h9, h10, (fun h => by cases h), by show l.dr ≤ l.r + 1; omega, h13, h14, h15⟩
    · rw [if_neg er]
      exact ⟨h1, h2, h3, h4, h5, h6, h7, h8, h9, h10, fun _ => by show l.r < l.h.N; omega, h12, h13, h14, h15⟩
  · rw [if_neg e]
    by_cases e2 : l.r < i
    · rw [if_pos e2]
      exact ⟨h1, h2, h3, h4, h5, h6, h7, h8, h9, h10, h11, h12, h13, h14, h15⟩
    · rw [if_neg e2]
      exact ⟨h1, h2, h3, h4, h5, h6, h7, h8, h9, h10, h11, h12, h13, h14, h15⟩
theorem Inv.pop {ah pt pz : Nat} {l : LK} (h : Inv ah pt pz l) {b : Nat} {ws : List Nat} (hw : l.way = b :: ws) : Inv ah pt pz { l with way := ws } ∧ b < l.h.N := by
  obtain ⟨h1, h2, h3, h4, h5, h6, h7, h8, h9, h10, h11, h12, h13, h14, h15⟩ := h
  exact ⟨⟨h1, h2, h3, h4, h5, h6, h7, h8, fun i hi => h9 i (by rw [hw]; exact List.mem_cons_of_mem _ hi), h10, h11, h12, h13, h14, h15⟩, h9 b (by rw [hw]; exact List.mem_cons_self)⟩
theorem Inv.one {ah pt pz : Nat} {l : LK} (h : Inv ah pt pz l) {b : Nat} {ws : List Nat} (hw : l.way = b :: ws) (lost room : Bool) : Inv ah pt pz (if lost = true then { l with way := ws } else arrive { l with way := ws } b room) := by
  obtain ⟨h1, h2⟩ := h.pop hw
  split
  · exact h1
  · exact h1.arr h2 room
theorem Inv.asks {ah pt pz : Nat} {l : LK} (h : Inv ah pt pz l) (hA : l.h.A < 100) : Inv ah pt pz { l with h := { l.h with A := l.h.A + 1 } } := by
  obtain ⟨h1, h2, h3, h4, h5, h6, h7, h8, h9, h10, h11, h12, h13, h14, h15⟩ := h
  exact ⟨h1, h2, Nat.le_succ_of_le h3, hA, h5, h6, h7, h8, h9, h10, h11, h12, h13, h14, fun _ => Nat.succ_pos _⟩
theorem Inv.report {ah pt pz : Nat} {l : LK} (h : Inv ah pt pz l) : Inv ah pt pz { l with dr := l.r, dw := l.wt, da := l.ag, hd := true } := by
  obtain ⟨h1, h2, h3, h4, h5, h6, h7, h8, h9, h10, h11, h12, h13, h14, h15⟩ := h
  exact ⟨h1, h2, h3, h4, h5, h6, h7, h8, h9, h10, h11, Nat.le_refl _, fun _ => h1, h11, h15⟩
/-- what a hand is between -/
structure HOk (ah pt pz r : Nat) (x : HS) : Prop where
  br : x.b ≤ r
  rN : r ≤ x.N
  NA : x.N ≤ x.A
  A1 : x.A ≤ 100
  ah : x.N - x.b ≤ ah
  tm : x.tm < pt
  tr : x.tr ≤ 100
  si : x.si ≤ pz
  hl : x.hl = true → 0 < x.A
theorem Inv.hok {ah pt pz : Nat} {l : LK} (h : Inv ah pt pz l) : HOk ah pt pz l.r l.h := ⟨h.br, h.rN, h.NA, h.A1, h.ah, h.tm, h.tr, h.si, h.hl⟩
theorem HOk.mid {ah pt pz r : Nat} {x : HS} (h : HOk ah pt pz r x) (hpt : 0 < pt) (hd : Bool) (dr : Nat) (h1 : dr ≤ r) : HOk ah pt pz r (midH pz x hd dr) := by
  obtain ⟨k1, k2, k3, k4, k5, k6, k7, k8, k9⟩ := h
  unfold midH hearH
  split
  · dsimp only
    split
    · exact ⟨h1, k2, k3, k4, by show x.N - dr ≤ ah; omega, hpt, Nat.zero_le _, Nat.min_le_right _ _, k9⟩
    · exact ⟨k1, k2, k3, k4, k5, k6, k7, Nat.min_le_right _ _, k9⟩
  · exact ⟨k1, k2, k3, k4, k5, k6, k7, Nat.min_le_right _ _, k9⟩
theorem mid_N (pz : Nat) (x : HS) (hd : Bool) (dr : Nat) : (midH pz x hd dr).N = x.N ∧ (midH pz x hd dr).A = x.A ∧ (midH pz x hd dr).hl = x.hl := by
  unfold midH hearH
  split
  · dsimp only
    split <;> exact ⟨rfl, rfl, rfl⟩
  · exact ⟨rfl, rfl, rfl⟩
theorem HOk.late {ah pt pz r : Nat} {x : HS} (h : HOk ah pt pz r x) (hpt : 0 < pt) (w : Bool) : HOk ah pt pz r (lateH pt x w).x ∧ (lateH pt x w).x.N = x.N ∧ (lateH pt x w).x.b = x.b ∧ (lateH pt x w).x.A = x.A ∧ (∀ i ∈ (lateH pt x w).up, i < x.N) ∧ (lateH pt x w).up.length ≤ x.N - x.b := by
  obtain ⟨k1, k2, k3, k4, k5, k6, k7, k8, k9⟩ := h
  unfold lateH
  split
  · exact ⟨⟨k1, k2, k3, k4, k5, hpt, k7, k8, k9⟩, rfl, rfl, rfl, (fun i hi => by cases hi), Nat.zero_le _⟩
  · rename_i hb
    split
    · rename_i hc
      exact ⟨⟨k1, k2, k3, k4, k5, hc.2, k7, k8, k9⟩, rfl, rfl, rfl, (fun i hi => by cases hi), Nat.zero_le _⟩
    · split
      · exact ⟨⟨k1, k2, k3, k4, k5, hpt, k7, Nat.zero_le _, fun _ => by show 0 < x.A; omega⟩, rfl, rfl, rfl, (fun i hi => by cases hi), Nat.zero_le _⟩
      · rename_i ht
        refine ⟨⟨k1, k2, k3, k4, k5, hpt, by show x.tr + 1 ≤ 100; omega, Nat.zero_le _, k9⟩, rfl, rfl, rfl, fun i hi => ?_, by show (List.range' _ _).length ≤ _; rw [List.length_range']; exact Nat.le_refl _⟩
        have hi' : i ∈ List.range' x.b (x.N - x.b) := hi
        rw [List.mem_range'_1] at hi'
        omega
theorem HOk.more {ah pt pz r : Nat} {x : HS} (h : HOk ah pt pz r x) : HOk ah pt pz r (moreH ah x).1 ∧ x.N ≤ (moreH ah x).1.N ∧ (moreH ah x).1.b = x.b ∧ (∀ i ∈ (moreH ah x).2, i < (moreH ah x).1.N) ∧ (moreH ah x).2.length + (x.N - x.b) ≤ ah := by
  obtain ⟨k1, k2, k3, k4, k5, k6, k7, k8, k9⟩ := h
  have hn : nMore ah x ≤ ah - (x.N - x.b) ∧ nMore ah x ≤ x.A - x.N := ⟨Nat.min_le_left _ _, Nat.min_le_right _ _⟩
  unfold moreH
  dsimp only
  refine ⟨⟨k1, by show r ≤ x.N + nMore ah x; omega, by show x.N + nMore ah x ≤ x.A; omega, k4, by show x.N + nMore ah x - x.b ≤ ah; omega, k6, k7, k8, k9⟩, by omega, rfl, fun i hi => ?_, by rw [List.length_range']; omega⟩
  rw [List.mem_range'_1] at hi
  omega
/-- a step keeps what holds; what goes up -/
theorem HOk.step {ah pt pz r : Nat} {x : HS} (h : HOk ah pt pz r x) (hpt : 0 < pt) (hd : Bool) (dr : Nat) (dw da : Bool) (h1 : dr ≤ r) : HOk ah pt pz r (stepH ah pt pz x hd dr dw da).1 ∧ x.N ≤ (stepH ah pt pz x hd dr dw da).1.N ∧ (stepH ah pt pz x hd dr dw da).1.A = x.A ∧ (∀ i ∈ (stepH ah pt pz x hd dr dw da).2, i < (stepH ah pt pz x hd dr dw da).1.N) ∧ (stepH ah pt pz x hd dr dw da).2.length ≤ ah := by
  unfold stepH
  split
  · exact ⟨h, Nat.le_refl _, rfl, (fun i hi => by cases hi), Nat.zero_le _⟩
  · dsimp only
    have h2 := h.mid hpt hd dr h1
    obtain ⟨m1, m2, m3⟩ := mid_N pz x hd dr
    generalize midH pz x hd dr = x2 at *
    obtain ⟨h3, e1, e2, e3, e4, e5⟩ := h2.late hpt (hd && da && !dw && x2.si == pz)
    generalize lateH pt x2 (hd && da && !dw && x2.si == pz) = t at *
    split
    · obtain ⟨h4, f1, f2, f3, f4⟩ := h3.more
      refine ⟨h4, by show x.N ≤ (moreH ah t.x).1.N; omega, by show (moreH ah t.x).1.A = x.A; rw [← m2, ← e3]; rfl, fun i hi => ?_, ?_⟩
      · rcases List.mem_append.1 hi with k | k
        · have := e4 i k
          show i < (moreH ah t.x).1.N
          omega
        · exact f3 i k
      · show (t.up ++ (moreH ah t.x).2).length ≤ ah
        rw [List.length_append]
        omega
    · refine ⟨h3, by show x.N ≤ t.x.N; omega, by show t.x.A = x.A; omega, fun i hi => ?_, ?_⟩
      · have := e4 i hi
        show i < t.x.N
        omega
      · show t.up.length ≤ ah
        have := h2.ah
        omega
/-- a link after the hand's step -/
def stepL (ah pt pz : Nat) (l : LK) : LK :=
  { l with h := (stepH ah pt pz l.h l.hd l.dr l.dw l.da).1, hd := false, way := l.way ++ (stepH ah pt pz l.h l.hd l.dr l.dw l.da).2, old := l.old ++ (stepH ah pt pz l.h l.hd l.dr l.dw l.da).2 }
theorem Inv.step {ah pt pz : Nat} {l : LK} (h : Inv ah pt pz l) (hpt : 0 < pt) : Inv ah pt pz (stepL ah pt pz l) ∧ (stepL ah pt pz l).way.length ≤ l.way.length + ah ∧ (stepL ah pt pz l).old.length ≤ l.old.length + ah ∧ (stepL ah pt pz l).h.A = l.h.A := by
  obtain ⟨h1, h2, h3, h4, h5⟩ := h.hok.step hpt l.hd l.dr l.dw l.da h.dr
  unfold stepL
  dsimp only
  generalize stepH ah pt pz l.h l.hd l.dr l.dw l.da = y at *
  refine ⟨⟨h1.br, h1.rN, h1.NA, h1.A1, h1.ah, h1.tm, h1.tr, h1.si, fun i hi => ?_, fun i hi => ?_, fun hw => ?_, h.dr, (fun h => by cases h), fun hw => ?_, h1.hl⟩, ?_, ?_, h3⟩
  · rcases List.mem_append.1 hi with k | k
    · exact Nat.lt_of_lt_of_le (h.way i k) h2
    · exact h4 i k
  · rcases List.mem_append.1 hi with k | k
    · exact Nat.lt_of_lt_of_le (h.old i k) h2
    · exact h4 i k
  · exact Nat.lt_of_lt_of_le (h.wt hw) h2
  · exact Nat.lt_of_lt_of_le (h.dw hw) h2
  · rw [List.length_append]; omega
  · rw [List.length_append]; omega
theorem comes_facts (room : Bool) (lz : Nat → Bool) : ∀ (f i : Nat) (l : LK), (comes room lz i f l).h = l.h ∧ (comes room lz i f l).old = l.old ∧ (comes room lz i f l).hd = l.hd ∧ (comes room lz i f l).way.length = l.way.length - f
  | 0, i, l => ⟨rfl, rfl, rfl, rfl⟩
  | f + 1, i, l => by
    unfold comes
    cases hw : l.way with
    | nil =>
      dsimp only
      exact ⟨rfl, rfl, rfl, by rw [hw]; simp⟩
    | cons b ws =>
      dsimp only
      have hstep : ∀ l2 : LK, (l2 = { l with way := ws } ∨ l2 = arrive { l with way := ws } b room) → l2.h = l.h ∧ l2.old = l.old ∧ l2.hd = l.hd ∧ l2.way = ws := by
        intro l2 h2
        rcases h2 with rfl | rfl
        · exact ⟨rfl, rfl, rfl, rfl⟩
        · obtain ⟨a1, a2, a3, _, _, _, a7⟩ := arrive_facts { l with way := ws } b room
          exact ⟨a1, a3, a7, a2⟩
      obtain ⟨k1, k2, k3, k4⟩ := hstep (if lz i = true then { l with way := ws } else arrive { l with way := ws } b room) (by split; exact .inl rfl; exact .inr rfl)
      obtain ⟨j1, j2, j3, j4⟩ := comes_facts room lz f (i + 1) (if lz i = true then { l with way := ws } else arrive { l with way := ws } b room)
      refine ⟨j1.trans k1, j2.trans k2, j3.trans k3, ?_⟩
      rw [j4, k4, List.length_cons]
      omega
theorem Inv.cms {ah pt pz : Nat} (room : Bool) (lz : Nat → Bool) : ∀ (f i : Nat) (l : LK), Inv ah pt pz l → Inv ah pt pz (comes room lz i f l)
  | 0, i, l, h => h
  | f + 1, i, l, h => by
    unfold comes
    cases hw : l.way with
    | nil => exact h
    | cons b ws =>
      exact Inv.cms room lz f (i + 1) _ (h.one hw (lz i) room)
end Go.Proofs.Ytkngoomkmbkenaa
/- A hand at work, and the plain hand it stands for. -/
namespace Go.Proofs.Ytkngoomkmbkenaa
set_option linter.unusedVariables false
open Go.RowKit

structure WL (ah pt pz : Nat) (h : HS) (x : WS) : Prop where
  N : x.N = h.N
  sn : x.sn = h.N - h.b
  qn : x.qn = h.A - h.N
  S : conts x.Rs = ones (List.range' h.b x.sn)
  Q : conts x.Rq = ones (List.range' h.N x.qn)
  tm : x.tm = h.tm
  tr : x.tr = h.tr
  si : x.si = h.si
  ha : x.ha = if h.hl = true then 19 else 0
  ah : x.ah = ah
  pt : x.pt = pt
  pz : x.pz = pz
theorem WL.si' {ah pt pz : Nat} {h : HS} {x : WS} (H : WL ah pt pz h x) : WL ah pt pz { h with si := min (h.si + 1) pz } { x with si := min (h.si + 1) pz } :=
  ⟨H.N, H.sn, H.qn, H.S, H.Q, H.tm, H.tr, rfl, H.ha, H.ah, H.pt, H.pz⟩
theorem ones_drop (b n t : Nat) (h : t ≤ n) {R : List RB} (hR : conts R = ones (List.range' b n)) : conts (R.drop t) = ones (List.range' (b + t) (n - t)) := by
  unfold conts at *
  rw [List.map_drop, hR]
  unfold ones
  rw [← List.map_drop]
  congr 1
  rw [List.drop_range']
  congr 1
  omega
theorem WL.hear {ah pt pz : Nat} {h : HS} {x : WS} (H : WL ah pt pz h x) (dr t : Nat) (hb : h.b ≤ dr) (hd : dr ≤ h.N) (ht : t = dr - h.b) (sa : Option Addr) (sc : Nat) :
    WL ah pt pz (hearH h dr) { x with sa := sa, sn := x.sn - t, sc := sc, Rs := x.Rs.drop t, tm := if 0 < t then 0 else x.tm, tr := if 0 < t then 0 else x.tr } := by
  have hsn := H.sn
  have hS := ones_drop h.b x.sn t (by omega) H.S
  unfold hearH
  by_cases e : h.b < dr
  · rw [if_pos e]
    have e2 : 0 < t := by omega
    refine ⟨H.N, ?_, H.qn, ?_, H.Q, if_pos e2, if_pos e2, H.si, H.ha, H.ah, H.pt, H.pz⟩
    · show x.sn - t = h.N - dr
      omega
    · show conts (x.Rs.drop t) = ones (List.range' dr (x.sn - t))
      rw [hS, show h.b + t = dr by omega]
  · rw [if_neg e]
    have e2 : ¬ 0 < t := by omega
    refine ⟨H.N, ?_, H.qn, ?_, H.Q, ?_, ?_, H.si, H.ha, H.ah, H.pt, H.pz⟩
    · show x.sn - t = h.N - h.b
      omega
    · show conts (x.Rs.drop t) = ones (List.range' h.b (x.sn - t))
      rw [hS, show h.b + t = h.b by omega]
    · show (if 0 < t then 0 else x.tm) = h.tm
      rw [if_neg e2]; exact H.tm
    · show (if 0 < t then 0 else x.tr) = h.tr
      rw [if_neg e2]; exact H.tr
theorem cmds_nil : cmds [] = [] := rfl
/-- late, in plain words -/
theorem WL.lateW {ah pt pz : Nat} {h : HS} {x : WS} (H : WL ah pt pz h x) (hbN : h.b ≤ h.N) (hl : h.hl = false) (w : Bool) (ga : Option Addr) (gn gc : Nat) (Rg : List RB) :
    WL ah pt pz (lateH pt h w).x { x with tm := (lateO x w).tm, si := (lateO x w).si, tr := (lateO x w).tr, ha := (lateO x w).ha, ga := ga, gn := gn, gc := gc, Rg := Rg } ∧ (lateO x w).go = (lateH pt h w).go ∧
    (if (lateO x w).rs = true then cmds (List.range' h.b x.sn) else []) = cmds (lateH pt h w).up ∧ (if (lateO x w).rs = true then x.sn else 0) = (lateH pt h w).up.length := by
  have hsn := H.sn
  have htm := H.tm
  have htr := H.tr
  have hpt := H.pt
  have hha := H.ha
  rw [hl, if_neg (fun h => Bool.noConfusion h)] at hha
  unfold lateO lateH
  by_cases e : h.b = h.N
  · rw [if_pos e, if_pos (by omega)]
    refine ⟨⟨H.N, H.sn, H.qn, H.S, H.Q, rfl, H.tr, H.si, H.ha, H.ah, H.pt, H.pz⟩, rfl, rfl, rfl⟩
  · rw [if_neg e, if_neg (by omega : ¬ x.sn = 0)]
    by_cases e2 : w = false ∧ h.tm + 1 < pt
    · have e2' : w = false ∧ x.tm + 1 < x.pt := by rw [htm, hpt]; exact e2
      rw [if_pos e2, if_pos e2']
      refine ⟨⟨H.N, H.sn, H.qn, H.S, H.Q, ?_, H.tr, H.si, H.ha, H.ah, H.pt, H.pz⟩, rfl, rfl, rfl⟩
      show x.tm + 1 = h.tm + 1
      rw [htm]
    · have e2' : ¬ (w = false ∧ x.tm + 1 < x.pt) := by rw [htm, hpt]; exact e2
      rw [if_neg e2, if_neg e2']
      by_cases e3 : h.tr = 100
      · have e3' : x.tr = 100 := by rw [htr]; exact e3
        rw [if_pos e3, if_pos e3']
        refine ⟨⟨H.N, H.sn, H.qn, H.S, H.Q, rfl, H.tr, rfl, rfl, H.ah, H.pt, H.pz⟩, rfl, rfl, rfl⟩
      · have e3' : ¬ x.tr = 100 := by rw [htr]; exact e3
        rw [if_neg e3, if_neg e3']
        refine ⟨⟨H.N, H.sn, H.qn, H.S, H.Q, rfl, ?_, rfl, H.ha, H.ah, H.pt, H.pz⟩, rfl, ?_, ?_⟩
        · show x.tr + 1 = h.tr + 1
          rw [htr]
        · rw [if_pos rfl, hsn]
        · rw [if_pos rfl, hsn]
          exact List.length_range'.symm
/-- more, in plain words -/
theorem WL.moreW {ah pt pz n : Nat} {h : HS} {x : WS} (H : WL ah pt pz h x) (hbN : h.b ≤ h.N) (hNA : h.N ≤ h.A) (hn : n = min (x.ah - x.sn) x.qn) (f : MoF) (hf : MoC x h.b n f) (qa : Option Addr) (qc : Nat) :
    WL ah pt pz (moreH ah h).1 { moX x n f with qa := qa, qn := x.qn - n, qc := qc, Rq := x.Rq.drop n } ∧ conts f.Rg = conts x.Rg ++ cmds (moreH ah h).2 ∧ n = (moreH ah h).2.length := by
  have hsn := H.sn
  have hqn := H.qn
  have hah := H.ah
  have hnm : nMore ah h = n := by unfold nMore; rw [hn, hsn, hqn, hah]
  have hnq : n ≤ x.qn := by rw [hn]; exact Nat.min_le_right _ _
  unfold moreH
  rw [hnm]
  refine ⟨⟨?_, ?_, ?_, hf.s, ?_, H.tm, H.tr, H.si, H.ha, H.ah, H.pt, H.pz⟩, ?_, List.length_range'.symm⟩
  · show x.N + n = h.N + n
    rw [H.N]
  · show x.sn + n = h.N + n - h.b
    omega
  · show x.qn - n = h.A - (h.N + n)
    omega
  · show conts (x.Rq.drop n) = ones (List.range' (h.N + n) (x.qn - n))
    exact ones_drop h.N x.qn n hnq H.Q
  · rw [← H.N]
    exact hf.g
end Go.Proofs.Ytkngoomkmbkenaa
/- Regions that draw their order, in two parts that need not be parted in the text: what is loud in the second part waits for all that looks at memory in the first. -/
namespace Go.Proofs.Ytkngoomkmbkenaa
set_option linter.unusedVariables false
section
variable {P : Program} {ops : Array Oper} {md : Region.Mode} {Q : Exit → Act → World → Prop} {S1 S2 : World → World → Prop}

def wpY (P : Program) (md : Region.Mode) (ops : Array Oper) (Q : Exit → Act → World → Prop) (T : Nat → World → World → Prop) (E : Act → World → Prop) : Nat → Array Bool → Act → World → Prop
  | 0, listed, a, w => Region.ready md ops listed = [] ∧ E a w
  | f + 1, listed, a, w => Region.ready md ops listed ≠ [] ∧
    ∀ i ∈ Region.ready md ops listed, wpOp P ops Q i (fun a' w' => T i w w' ∧ wpY P md ops Q T E f (listed.setIfInBounds i true) a' w') a w

theorem wpAny_of_Y {T : Nat → World → World → Prop} {E : Act → World → Prop} (hE : ∀ a w, E a w → Q .normal a w) :
    ∀ (f : Nat) (listed : Array Bool) (a : Act) (w : World), wpY P md ops Q T E f listed a w → wpAny P md ops Q f listed a w
  | 0, listed, a, w, h => ⟨h.1, hE _ _ h.2⟩
  | f + 1, listed, a, w, h => ⟨fun h0 => absurd h0 h.1, fun i hi => wpOp_mono (fun a' w' h' => wpAny_of_Y hE f _ a' w' h'.2) (h.2 i hi)⟩

theorem wpY_first {T : Nat → World → World → Prop} {R : World → World → Prop} {E : Act → World → Prop} {i : Nat} {oi : Oper} {v : Value} (hi : ops[i]? = some oi) (hsel : ∀ (j : Nat) (o : Oper) cs b, ops[j]? = some o → o.op ≠ .select cs b)
    (hQ : ∀ c a d v w, Q (.panic c) (a.put d v) w → Q (.panic c) a w) (hTrefl : ∀ j w, T j w w) (hrefl : ∀ w, R w w) (htrans : ∀ a b c, R a b → R b c → R a c)
    (hTR : ∀ (j : Nat) (oj : Oper), ops[j]? = some oj → j ≠ i → (∀ e ∈ oj.after, Region.binds md e = true → e.on ≠ i) → ∀ w w', T j w w' → R w w') :
    ∀ (f : Nat) (listed : Array Bool) (a : Act) (w : World),
      (∀ j oj, ops[j]? = some oj → j ≠ i → listed.getD j true = false → (∀ e ∈ oj.after, Region.binds md e = true → e.on ≠ i) → oi.apart ops oj = true) →
      i ∈ Region.ready md ops listed → YieldsIf P ops (R w) oi v a →
      wpY P md ops Q T E f (listed.setIfInBounds i true) (a.put oi.dst v) w → wpY P md ops Q T E (f + 1) listed a w := by
  intro f
  induction f with
  | zero =>
    intro listed a w _ hr hy H
    refine ⟨fun h => (by rw [h] at hr; cases hr), fun j hj => ?_⟩
    by_cases hji : j = i
    · subst hji; exact hy.wpOp hi (hrefl w) ⟨hTrefl j w, H⟩
    · have h1 := ready_mono hj hji
      rw [H.1] at h1
      cases h1
  | succ f ih =>
    intro listed a w hfree hr hy H
    refine ⟨fun h => (by rw [h] at hr; cases hr), fun j hj => ?_⟩
    by_cases hji : j = i
    · subst hji; exact hy.wpOp hi (hrefl w) ⟨hTrefl j w, H⟩
    · have h1 := H.2 j (ready_mono hj hji)
      obtain ⟨hjun, oj, hoj, hall⟩ := mem_ready.1 hj
      have hnot : ∀ e ∈ oj.after, Region.binds md e = true → e.on ≠ i := fun e he hb heq => by
        have h1 := hall e he hb
        rw [heq, getD_both (mem_ready.1 hr).1] at h1
        cases h1
      have h2 := wpOp_putIf hoj (hfree j oj hoj hji hjun hnot) (fun cs b => hsel i oi cs b hi) (fun cs b => hsel j oj cs b hoj) (fun c a w => hQ c a _ _ w) hy h1
      have hfree' : ∀ k ok, ops[k]? = some ok → k ≠ i → (listed.setIfInBounds j true).getD k true = false →
          (∀ e ∈ ok.after, Region.binds md e = true → e.on ≠ i) → oi.apart ops ok = true := fun k ok hk hki hun hno => by
        refine hfree k ok hk hki ?_ hno
        by_cases hjk : j = k
        · subst hjk; exact hjun
        · rw [getD_set_ne true hjk] at hun; exact hun
      refine wpOp_mono (fun a' w' h3 => ⟨h3.2.1, ih (listed.setIfInBounds j true) a' w' hfree' (ready_mono hr (Ne.symm hji)) (yieldsIf_mono h3.1 fun w2 h => htrans _ _ _ (hTR j oj hoj hji hnot _ _ h3.2.1) h) ?_⟩) h2
      rw [Array.setIfInBounds_comm _ _ hji]
      exact h3.2.2

def okD (md : Region.Mode) (ops : Array Oper) (late loud : List Nat) (first : Bool) (k : Array Bool → Bool) : List Nat → Array Bool → Bool
  | [], listed => k listed
  | i :: rest, listed => decide (i < ops.size) && (Region.ready md ops listed).contains i && (if loud.contains i then decide (Region.ready md ops listed = [i]) && (late.contains i == !first) else Region.free md ops listed i && (!first || late.all fun j => Region.waitsFor md ops j i)) &&
      okD md ops late loud first k rest (listed.setIfInBounds i true)

theorem wpY_of_D {late loud : List Nat} {E : Act → World → Prop} (hsel : ∀ (j : Nat) (o : Oper) cs b, ops[j]? = some o → o.op ≠ .select cs b)
    (hQ : ∀ c a d v w, Q (.panic c) (a.put d v) w → Q (.panic c) a w) (first : Bool) {S : World → World → Prop} (hS : S = if first then S1 else S2) (hr1 : ∀ w, S1 w w) (hr2 : ∀ w, S2 w w) (hrefl : ∀ w, S w w) (htrans : ∀ a b c, S a b → S b c → S a c) (h12 : ∀ a b, S1 a b → S2 a b)
    {g : Nat} {k : Array Bool → Bool} {K : Act → World → Prop} (hk : ∀ listed a w, k listed = true → K a w → wpY P md ops Q (fun j w w' => if late.contains j = true then S2 w w' else S1 w w') E g listed a w) :
    ∀ (order : List Nat) (listed : Array Bool) (a : Act) (w : World), okD md ops late loud first k order listed = true → wpC P ops Q S loud K order a w →
      wpY P md ops Q (fun j w w' => if late.contains j = true then S2 w w' else S1 w w') E (order.length + g) listed a w
  | [], listed, a, w, hok, h => by
    rw [List.length_nil, Nat.zero_add]
    exact hk _ _ _ hok h
  | i :: rest, listed, a, w, hok, h => by
    simp only [okD, Bool.and_eq_true, decide_eq_true_eq] at hok
    obtain ⟨⟨⟨hin, hr⟩, hc⟩, hok'⟩ := hok
    have hr' : i ∈ Region.ready md ops listed := by simpa using hr
    rw [List.length_cons, Nat.add_right_comm]
    unfold wpC at h
    cases hi : ops[i]? with
    | none => simp only [hi] at h
    | some oi =>
      simp only [hi] at h
      by_cases hl : loud.contains i = true
      · rw [if_pos hl] at h hc
        simp only [Bool.and_eq_true, decide_eq_true_eq, beq_iff_eq] at hc
        obtain ⟨hone, hlate⟩ := hc
        refine ⟨fun e => (by rw [e] at hr'; cases hr'), fun j hj => ?_⟩
        obtain rfl : j = i := by rw [hone] at hj; simpa using hj
        refine wpOp_mono (fun a' w' h' => ⟨?_, wpY_of_D hsel hQ first hS hr1 hr2 hrefl htrans h12 hk rest _ a' w' hok' h'.2⟩) h
        have h1 := h'.1
        rw [hS] at h1
        dsimp only
        rw [hlate]
        cases first
        · exact h1
        · exact h1
      · rw [if_neg hl] at h hc
        simp only [Bool.and_eq_true, Bool.or_eq_true, List.all_eq_true] at hc
        obtain ⟨hfr, hlt⟩ := hc
        obtain ⟨v, hy, hrest⟩ := h
        refine wpY_first (R := S) hi hsel hQ (fun j w => ?_) hrefl htrans (fun j oj hoj hji hno u u' hT => ?_) (rest.length + g) listed a w (Region.free_spec hi hfr) hr' hy
          (wpY_of_D hsel hQ first hS hr1 hr2 hrefl htrans h12 hk rest _ _ w hok' hrest)
        · split
          · exact hr2 w
          · exact hr1 w
        · rw [hS]
          by_cases hj : late.contains j = true
          · rw [if_pos hj] at hT
            cases first
            · exact hT
            · exfalso
              rcases hlt with h1 | h1
              · simp at h1
              · obtain ⟨oj', hoj', e, he, hb, hon⟩ := Region.waitsFor_spec (h1 j (by simpa using hj))
                obtain rfl := Option.some.inj (hoj'.symm.trans hoj)
                exact hno e he hb hon
          · rw [if_neg hj] at hT
            cases first
            · exact h12 _ _ hT
            · exact hT

/-- the parts, written out -/
def wpPh (P : Program) (l : List Oper) (Q : Exit → Act → World → Prop) (S1 S2 : World → World → Prop) (loud : List Nat) (E : Act → World → Prop) : List (Bool × List Nat) → Act → World → Prop
  | [], a, w => E a w
  | (true, order) :: rest, a, w => wpL P l.toArray Q S1 (fun a' w' => wpPh P l Q S1 S2 loud E rest a' w') (order.map fun i => (loud.contains i, l.getD i default)) a w
  | (false, order) :: rest, a, w => wpL P l.toArray Q S2 (fun a' w' => wpPh P l Q S1 S2 loud E rest a' w') (order.map fun i => (loud.contains i, l.getD i default)) a w
def okPh (ops : Array Oper) (late loud : List Nat) : List (Bool × List Nat) → Array Bool → Bool
  | [], listed => decide (Region.ready .any ops listed = [])
  | (f, order) :: rest, listed => order.all (fun i => decide (i < ops.size)) && okD .any ops late loud f (okPh ops late loud rest) order listed
def lenPh : List (Bool × List Nat) → Nat
  | [] => 0
  | (_, order) :: rest => order.length + lenPh rest
/-- the checks on a region -/
def canD (ops : Array Oper) (late loud : List Nat) (ph : List (Bool × List Nat)) : Bool :=
  Region.noSelect ops && decide (lenPh ph = ops.size) && okPh ops late loud ph (Array.replicate ops.size false)

theorem wpY_of_Ph {l : List Oper} {late loud : List Nat} {E : Act → World → Prop} (hsel : ∀ (j : Nat) (o : Oper) cs b, l.toArray[j]? = some o → o.op ≠ .select cs b)
    (hQ : ∀ c a d v w, Q (.panic c) (a.put d v) w → Q (.panic c) a w) (hr1 : ∀ w, S1 w w) (ht1 : ∀ a b c, S1 a b → S1 b c → S1 a c) (hr2 : ∀ w, S2 w w) (ht2 : ∀ a b c, S2 a b → S2 b c → S2 a c) (h12 : ∀ a b, S1 a b → S2 a b) :
    ∀ (ph : List (Bool × List Nat)) (listed : Array Bool) (a : Act) (w : World), okPh l.toArray late loud ph listed = true → wpPh P l Q S1 S2 loud E ph a w →
      wpY P .any l.toArray Q (fun j w w' => if late.contains j = true then S2 w w' else S1 w w') E (lenPh ph) listed a w
  | [], listed, a, w, hok, h => ⟨by simpa [okPh] using hok, h⟩
  | (f, order) :: rest, listed, a, w, hok, h => by
    simp only [okPh, Bool.and_eq_true, List.all_eq_true, decide_eq_true_eq] at hok
    obtain ⟨hin, hok⟩ := hok
    have hs : l.toArray.size = l.length := by simp
    have hin' : ∀ i ∈ order, i < l.length := fun i hi => by have := hin i hi; omega
    cases f
    · exact wpY_of_D (S := S2) hsel hQ false rfl hr1 hr2 hr2 ht2 h12 (fun listed a w hk hK => wpY_of_Ph hsel hQ hr1 ht1 hr2 ht2 h12 rest listed a w hk hK) order listed a w hok (wpC_of_L order a w hin' h)
    · exact wpY_of_D (S := S1) hsel hQ true rfl hr1 hr2 hr1 ht1 h12 (fun listed a w hk hK => wpY_of_Ph hsel hQ hr1 ht1 hr2 ht2 h12 rest listed a w hk hK) order listed a w hok (wpC_of_L order a w hin' h)

/-- all operations of the region in parts; those marked 'true' look at memory, and what is late waits for them -/
theorem wp_region_late {id : Nat} {a : Act} {w : World} {l : List Oper} (late loud : List Nat) (ph : List (Bool × List Nat)) (S1 S2 : World → World → Prop) (hr1 : ∀ w, S1 w w) (ht1 : ∀ a b c, S1 a b → S1 b c → S1 a c) (hr2 : ∀ w, S2 w w) (ht2 : ∀ a b c, S2 a b → S2 b c → S2 a c) (h12 : ∀ a b, S1 a b → S2 a b)
    (hm : P.follows .mixedOrders = true) (hB : canD l.toArray late loud ph = true)
    (h : wpPh P l (OnlyOn Q) S1 S2 loud (Q .normal) ph a w.drew) : (Code.region id l.toArray true).wp P Q a w := by
  simp only [canD, Bool.and_eq_true, decide_eq_true_eq] at hB
  obtain ⟨⟨hsel, hlen⟩, hok⟩ := hB
  have H := wpY_of_Ph (Region.noSelect_spec hsel) (fun _ _ _ _ _ h => h) hr1 ht1 hr2 ht2 h12 ph _ a w.drew hok h
  refine Code.wp_mono OnlyOn.imp (wp_region_any hm ?_)
  have H2 := wpAny_of_Y (Q := OnlyOn Q) (fun a w hE => hE) _ _ _ _ H
  rw [hlen] at H2
  exact H2
end
end Go.Proofs.Ytkngoomkmbkenaa
