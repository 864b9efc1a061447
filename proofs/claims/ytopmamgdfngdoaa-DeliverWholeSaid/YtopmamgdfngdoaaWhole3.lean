/- Rows whose elements have c cells each, as one list of cells. -/
import Derived.Test.YtopmamgdfngdoaaWhole2
import Derived.Laws.AppendOwnNone
import Derived.OwnWalk
import Derived.Deep.DeepAppendWide
import Derived.WalkKit
namespace Go.Proofs.Ytopmamgdfngdoaa
set_option linter.unusedVariables false
open Go.RowKit

theorem flat_len {α : Type} (f : α → List Value) (c : Nat) (hf : ∀ x, (f x).length = c) (l : List α) : (l.flatMap f).length = l.length * c := by
  induction l with
  | nil => simp
  | cons x l ih => rw [List.flatMap_cons, List.length_append, ih, hf, List.length_cons, Nat.add_mul, Nat.one_mul, Nat.add_comm]
theorem flat_snoc {α : Type} (f : α → List Value) (l : List α) (x : α) : (l ++ [x]).flatMap f = l.flatMap f ++ f x := by simp
theorem flat_at {α : Type} (f : α → List Value) (c : Nat) (hf : ∀ x, (f x).length = c) (l : List α) (j : Nat) (h : j < l.length) (k : Nat) (hk : k < c) : (l.flatMap f)[j * c + k]? = (f (l[j]))[k]? := by
  induction l generalizing j with
  | nil => simp at h
  | cons x l ih =>
    rw [List.flatMap_cons]
    cases j with
    | zero => rw [List.getElem?_append_left (by rw [hf]; omega)]; simp
    | succ j =>
      have e : (j + 1) * c + k = c + (j * c + k) := by rw [Nat.add_mul, Nat.one_mul]; omega
      rw [List.getElem?_append_right (by rw [hf]; omega), hf, e, Nat.add_sub_cancel_left, ih j (by simpa using h)]
      simp
/-- a row of an own block, read at element j, cell k -/
theorem own_flat {α : Type} {w : World} {B e c n cap : Nat} {g : Nat} (f : α → List Value) (hf : ∀ x, (f x).length = c) {l : List α} (h : w.ownsRow B e c (.slice (some ⟨g, 0, none⟩) n cap) n (l.flatMap f)) (hl : l.length = n) (j : Nat) (hj : j < n) (k : Nat) (hk : k < c) :
    w.cell? ⟨g, j * c + k, none⟩ = (f (l[j]'(by omega)))[k]? := by
  have h1 : (j + 1) * c ≤ n * c := Nat.mul_le_mul_right _ hj
  rw [Nat.add_mul, Nat.one_mul] at h1
  rw [h.cellAt _ (by omega), flat_at f c hf l j (by omega) k hk]
/-- a block made of a list of cells, read -/
theorem new_cells (w : World) (l : List Value) (e : TypeId) : ∀ (j : Nat) (x : Value), l[j]? = some x → (w.alloc (.cells l.toArray e)).cell? ((⟨w.heap.size, 0, none⟩ : Addr).add j) = some x := by
  intro j x hj
  rw [Addr.add_lit, World.cell?_alloc_at _ _ _ _ rfl, Nat.zero_add]
  simpa using hj
end Go.Proofs.Ytopmamgdfngdoaa
/- A great function in pieces: a piece of code by its path, what holds of the slots ahead of it and behind it; loops over such. -/
namespace Go.Proofs.Ytopmamgdfngdoaa
set_option linter.unusedVariables false
open Go.RowKit

/-- a frame of N slots -/
def fr (N : Nat) (y : Nat → Value) : Array Value := ((List.range N).map y).toArray
theorem fr_of {t : Array Value} {N : Nat} (h : t.size = N) : t = fr N (fun i => t.getD i undef) := by
  unfold fr
  apply Array.ext
  · simp [h]
  · intro i h1 h2
    simp [h1]
theorem fr_size (N : Nat) (y : Nat → Value) : (fr N y).size = N := by simp [fr]
theorem fr_at (N : Nat) (y : Nat → Value) (i : Nat) (h : i < N) : (fr N y).getD i undef = y i := by
  simp [fr, h]
/-- a piece of code by its path -/
def Code.at_ : List Nat → Code → Code
  | [], c => c
  | 0 :: p, .seq a _ => Code.at_ p a
  | 1 :: p, .seq _ b => Code.at_ p b
  | 0 :: p, .block _ c => Code.at_ p c
  | 0 :: p, .loop c => Code.at_ p c
  | 0 :: p, .scope c => Code.at_ p c
  | 0 :: p, .cond _ a _ => Code.at_ p a
  | 1 :: p, .cond _ _ b => Code.at_ p b
  | _, _ => .skip
def pieceOf (f : Func) (p : List Nat) : Code := Code.at_ p (f.body.getD .skip)
/-- from slots and a world where Pre holds the piece goes on to such where Post holds -/
def Tri (P : Program) (N : Nat) (c : Code) (Pre : (Nat → Value) → World → Prop) (Post : (Nat → Value) → World → (Nat → Value) → World → Prop) : Prop :=
  ∀ (Q : Exit → Act → World → Prop) (y : Nat → Value) (w : World), Pre y w → (∀ y' w', Post y w y' w' → Q .normal ⟨fr N y', []⟩ w') → Code.wp P c Q ⟨fr N y, []⟩ w
theorem Tri.use {P : Program} {N : Nat} {c : Code} {Pre : (Nat → Value) → World → Prop} {Post : (Nat → Value) → World → (Nat → Value) → World → Prop} {Q : Exit → Act → World → Prop} {t : Array Value} {w : World} (h : Tri P N c Pre Post) (hs : t.size = N)
    (hp : Pre (fun i => t.getD i undef) w) (hq : ∀ y' w', Post (fun i => t.getD i undef) w y' w' → Q .normal ⟨fr N y', []⟩ w') : Code.wp P c Q ⟨t, []⟩ w := by
  rw [fr_of hs]
  exact h Q _ w hp hq
theorem q_fr {N : Nat} {Q : Exit → Act → World → Prop} {Post : (Nat → Value) → World → Prop} {t : Array Value} {w : World} (hq : ∀ y' w', Post y' w' → Q .normal ⟨fr N y', []⟩ w') (hs : t.size = N) (hp : Post (fun i => t.getD i undef) w) : Q .normal ⟨t, []⟩ w := by
  rw [fr_of hs]
  exact hq _ w hp
/-- one statement, what follows it hidden -/
theorem wp_seq_k {P : Program} {x y : Code} {Q : Exit → Act → World → Prop} {a : Act} {w : World} (h : ∀ K : Act → World → Prop, Hid (∀ a w, Code.wp P y Q a w → K a w) → Code.wp P x (Exit.then K Q) a w) : Code.wp P (.seq x y) Q a w :=
  wp_seq (h _ (hid (fun _ _ h => h)))
/-- what holds of a frame written out -/
def Holds2 (N : Nat) (I : (Nat → Value) → World → Prop) (a : Act) (w : World) : Prop := a.tmps.size = N ∧ a.defers = [] ∧ I (fun i => a.tmps.getD i undef) w
theorem wp_loop_fr {P : Program} {c : Code} {Q : Exit → Act → World → Prop} {a : Act} {w : World} (N : Nat) (I : (Nat → Value) → World → Prop) (m : (Nat → Value) → World → Nat) (h0 : Holds2 N I a w)
    (round : ∀ (y : Nat → Value) (W : World), I y W → Code.wp P c (Exit.then (fun a' W' => Holds2 N (fun y' W' => I y' W' ∧ m y' W' < m y W) a' W') Q) ⟨fr N y, []⟩ W) : Code.wp P (.loop c) Q a w := by
  refine wp_loop (Holds2 N I) (fun a W => m (fun i => a.tmps.getD i undef) W) h0 ?_
  rintro ⟨t, ds⟩ W ⟨h1, h2, h3⟩
  dsimp only at h1 h2 h3
  subst h2
  have e := fr_of h1
  have := round (fun i => t.getD i undef) W h3
  rw [← e] at this
  intro b k cs
  obtain ⟨e, a', w', h, harr⟩ := this b k cs
  refine ⟨e, a', w', ?_, harr⟩
  cases e with
  | normal => exact ⟨⟨h.1, h.2.1, h.2.2.1⟩, h.2.2.2⟩
  | _ => exact h
end Go.Proofs.Ytopmamgdfngdoaa
/- append of a row that reads (nil or not) onto an own row: one law for the walk. -/
namespace Go.Proofs.Ytopmamgdfngdoaa
set_option linter.unusedVariables false
open Go.RowKit

theorem own_slice {w : World} {base e size : Nat} {v : Value} {n : Nat} {xs : List Value} (h : w.ownsRow base e size v n xs) :
    ∃ ao cap, v = .slice ao n cap ∧ (v = .slice none 0 0 ↔ ao = none) ∧ ∀ k, v.ownBlock = some k → base ≤ k := by
  rcases h.2 with ⟨rfl, rfl⟩ | ⟨g, cap, cur, rfl, hb, _⟩
  · exact ⟨none, 0, rfl, by simp, fun k h => by simp [Value.ownBlock] at h⟩
  · exact ⟨_, cap, rfl, by simp, fun k h => by simp [Value.ownBlock] at h; omega⟩

theorem wpList_append_rd {P : Program} {w : World} {ops : Array Oper} {rest : List Oper} {o : Oper} {a : Act} {Q : Exit → Act → World → Prop} (hgd : o.guard = none) (s x : Operand) (t : TypeId)
    (ho : o.op = .call { callee := .builtin .append, args := #[s, x], argTypes := #[t, t] })
    (base : Nat) (e : TypeId) (i : TypeInfo) (z : Value) (bytes : Nat) (ht : P.underlying t = some (.slice e)) (hi : P.info? e = some i) (hz : i.zero = some z) (hsize : i.size = 1) (hby : i.bytes = bytes) (hzs : z.cells.size = 1)
    (ao : Option Addr) (n cap : Nat) (xs : List Value) (hs : a.eval s = .slice ao n cap) (hown : w.ownsRow base e 1 (.slice ao n cap) n xs)
    (bo : Option Addr) (m c : Nat) (ys : List Value) (hx : a.eval x = .slice bo m c) (hrd : Rd w bo m c ys) (h1 : ∀ u ∈ ys, u.oneCell' = true)
    (hbytes : (n + m) * bytes ≤ 140737488355328) (h63 : n + m ≤ maxLen) (hbase : base ≤ w.heap.size)
    (h : ∀ ao' cap' w', w'.ownsRow base e 1 (.slice ao' (n + m) cap') (n + m) (xs ++ ys) → w.grownBy w' (Value.slice ao n cap).ownBlock → Below base w w' → wpList P ops Q rest (a.put o.dst (.slice ao' (n + m) cap')) w') : wpList P ops Q (o :: rest) a w := by
  cases bo with
  | none =>
    obtain rfl := hrd.isnil rfl
    obtain rfl : m = 0 := by have := hrd.le; omega
    obtain rfl : ys = [] := List.eq_nil_of_length_eq_zero hrd.len
    refine wpList_append_own_none hgd s x t ho base e i 1 ht hi _ n xs hs hown hx ?_
    refine h _ _ _ (by simpa using hown) ⟨rfl, rfl, rfl, Nat.le_refl _, fun _ _ _ => rfl⟩ (Below.refl _ _)
  | some ad =>
    refine wpList_append_own w hgd s x t ho base e i z 1 bytes ht hi hz hsize hby hzs (by decide) _ n xs hs hown ad m c ys hx (by rw [hrd.len]; omega) ?_ h1 h63 hbytes hbase ?_
    · intro j u hj
      have hjn : j < m := by have h1 := (List.getElem?_eq_some_iff.1 hj).1; have h2 := hrd.len; omega
      obtain ⟨b', off', ha, _, hc⟩ := hrd.mem (by omega)
      cases ha
      rw [Addr.add_lit, hc j hjn]
      exact hj
    · intro v' w' ho' hg hnil
      obtain ⟨ao', cap', rfl, _, _⟩ := own_slice ho'
      obtain ⟨_, _, _, _, hown2⟩ := own_slice hown
      exact h _ _ _ ho' hg ((Below.refl base w).grown hg hbase hown2)

theorem wpList_append_rd_wide {P : Program} {w : World} {ops : Array Oper} {rest : List Oper} {o : Oper} {a : Act} {Q : Exit → Act → World → Prop} (hgd : o.guard = none) (s x : Operand) (t : TypeId)
    (ho : o.op = .call { callee := .builtin .append, args := #[s, x], argTypes := #[t, t] })
    (base : Nat) (e : TypeId) (i : TypeInfo) (z : Value) (bytes : Nat) (ht : P.underlying t = some (.slice e)) (hi : P.info? e = some i) (hz : i.zero = some z) (hsize : i.size = 1) (hby : i.bytes = bytes) (hzs : z.cells.size = 1)
    (ao : Option Addr) (n cap : Nat) (xs : List Value) (hs : a.eval s = .slice ao n cap) (hown : w.ownsRow base e 1 (.slice ao n cap) n xs)
    (bo : Option Addr) (m c : Nat) (ys : List Value) (hx : a.eval x = .slice bo m c) (hrd : Rd w bo m c ys) (h1 : ∀ u ∈ ys, u.oneCell' = true)
    (hbytes : ((n + m) + (n + m) / 4 + 192) * bytes ≤ 281474976710656) (h63 : n + m ≤ maxLen) (hbase : base ≤ w.heap.size)
    (h : ∀ ao' cap' w', w'.ownsRow base e 1 (.slice ao' (n + m) cap') (n + m) (xs ++ ys) → w.grownBy w' (Value.slice ao n cap).ownBlock → Below base w w' → wpList P ops Q rest (a.put o.dst (.slice ao' (n + m) cap')) w') : wpList P ops Q (o :: rest) a w := by
  cases bo with
  | none =>
    obtain rfl := hrd.isnil rfl
    obtain rfl : m = 0 := by have := hrd.le; omega
    obtain rfl : ys = [] := List.eq_nil_of_length_eq_zero hrd.len
    refine wpList_append_own_none hgd s x t ho base e i 1 ht hi _ n xs hs hown hx ?_
    refine h _ _ _ (by simpa using hown) ⟨rfl, rfl, rfl, Nat.le_refl _, fun _ _ _ => rfl⟩ (Below.refl _ _)
  | some ad =>
    refine wpList_append_own_wide w hgd s x t ho base e i z 1 bytes ht hi hz hsize hby hzs (by decide) _ n xs hs hown ad m c ys hx (by rw [hrd.len]; omega) ?_ h1 h63 hbytes hbase ?_
    · intro j u hj
      have hjn : j < m := by have h1 := (List.getElem?_eq_some_iff.1 hj).1; have h2 := hrd.len; omega
      obtain ⟨b', off', ha, _, hc⟩ := hrd.mem (by omega)
      cases ha
      rw [Addr.add_lit, hc j hjn]
      exact hj
    · intro v' w' ho' hg hnil
      obtain ⟨ao', cap', rfl, _, _⟩ := own_slice ho'
      obtain ⟨_, _, _, _, hown2⟩ := own_slice hown
      exact h _ _ _ ho' hg ((Below.refl base w).grown hg hbase hown2)
end Go.Proofs.Ytopmamgdfngdoaa
/- DeliverWhole, plain: one who gives, one who takes, and the notes between them. -/
namespace Go.Proofs.Ytopmamgdfngdoaa
set_option linter.unusedVariables false

/-- how long the file is; how many bytes at most go in a note; how many notes in a tick; the patience -/
structure Par where
  F : Nat
  m : Nat
  b : Nat
  p : Nat
abbrev Sp := Nat × Nat
/-- a note: name, piece from .. up to, end, gaps, done; an end was seen, a done was seen -/
inductive NT where
  | nm
  | np (x y : Nat)
  | ne
  | ng (l : List Sp)
  | nd
  | se
  | sd
structure GS where
  fi : Bool
  pos : Nat
  ag : List Sp
  st : Nat
  tm : Nat
  tr : Nat
structure TS where
  kn : Bool
  en : Bool
  hv : List Sp
  st : Nat
  tm : Nat
  tr : Nat
structure NX where
  g : GS
  o : List NT
  go : Bool
/-- what is to go once more: its first piece -/
def againG (P : Par) (g : GS) (s : Sp) (r : List Sp) : GS × NT :=
  if s = (0, 0) then ({ g with ag := r }, .nm)
  else if min s.2 (s.1 + P.m) = s.2 then ({ g with ag := r }, .np s.1 (min s.2 (s.1 + P.m)))
  else ({ g with ag := (min s.2 (s.1 + P.m), s.2) :: r }, .np s.1 (min s.2 (s.1 + P.m)))
def nextG (P : Par) (g : GS) : NX :=
  if g.fi = true then ⟨{ g with fi := false }, [.nm], true⟩
  else match g.ag with
    | s :: r => ⟨(againG P g s r).1, [(againG P g s r).2], true⟩
    | [] => if g.st ≠ 0 then ⟨g, [], false⟩
      else if g.pos < P.F then ⟨{ g with pos := min P.F (g.pos + P.m) }, [.np g.pos (min P.F (g.pos + P.m))], true⟩
      else ⟨{ g with st := 1, tm := 0, tr := 0 }, [.ne], false⟩
def loopG (P : Par) : Nat → GS → GS × List NT
  | 0, g => (g, [])
  | f + 1, g => if (nextG P g).go = true then ((loopG P f (nextG P g).g).1, (nextG P g).o ++ (loopG P f (nextG P g).g).2) else ((nextG P g).g, (nextG P g).o)
def waitG (P : Par) (g : GS) : GS × List NT :=
  if g.tm + 1 < P.p then ({ g with tm := g.tm + 1 }, [])
  else if g.tr = 100 then ({ g with tm := 0, st := 4 }, [])
  else ({ g with tm := 0, tr := g.tr + 1 }, [.ne])
def giveG (P : Par) (g : GS) : GS × List NT :=
  if 3 ≤ g.st then (g, [])
  else if g.st ≠ 0 then ((waitG P (loopG P P.b g).1).1, (loopG P P.b g).2 ++ (waitG P (loopG P P.b g).1).2)
  else loopG P P.b g
/-- what is missing between rows -/
def gapsF (F : Nat) : Nat → List Sp → List Sp
  | x, [] => if x < F then [(x, F)] else []
  | x, s :: r => (if x < min s.1 F then [(x, min s.1 F)] else []) ++ gapsF F s.2 r
def lacks (P : Par) (t : TS) : List Sp := (if t.kn = true then [] else [(0, 0)]) ++ gapsF P.F 0 t.hv
def askT (P : Par) (t : TS) : List NT := if lacks P t = [] then [] else [.ng ((lacks P t).take 20)]
def waitT (P : Par) (t : TS) : TS × List NT :=
  if t.st = 0 ∧ t.en = true then
    (if (t.tm + 1) % P.p = 0 then (if t.tr = 100 then ({ t with tm := 0, st := 4 }, []) else ({ t with tm := 0, tr := t.tr + 1 }, askT P t)) else ({ t with tm := (t.tm + 1) % P.p }, []))
  else if t.st = 3 ∧ t.tr < 100 then
    (if (t.tm + 1) % P.p = 0 then ({ t with tm := 0, tr := t.tr + 1 }, [.nd]) else ({ t with tm := (t.tm + 1) % P.p }, []))
  else (t, [])
def layH : Sp → List Sp → List Sp
  | m, [] => [m]
  | m, s :: r => if s.2 < m.1 then s :: layH m r else if m.2 < s.1 then m :: layH s r else layH (min m.1 s.1, max m.2 s.2) r
/-- are all bytes there? -/
def allH (F : Nat) (l : List Sp) : Bool := decide (F = 0) || (match l with | s :: _ => decide (s.1 = 0) && decide (F ≤ s.2) | [] => false)
def judgeT (P : Par) (t : TS) : TS × List NT := if (t.kn && t.en && allH P.F t.hv) = true then ({ t with st := 3 }, [.nd]) else (t, [])
def ending (P : Par) (t : TS) : TS × List NT :=
  ((judgeT P t).1, .se :: ((judgeT P t).2 ++ (if (judgeT P t).1.st = 0 then askT P (judgeT P t).1 else [])))
def takeT (P : Par) (t : TS) (n : NT) : TS × List NT :=
  if t.st = 0 then
    (match n with
    | .nm => judgeT P { t with tm := 0, tr := 0, kn := true }
    | .np x y => judgeT P { t with tm := 0, tr := 0, hv := layH (x, y) t.hv }
    | .ne => ending P { t with tm := 0, tr := 0, en := true }
    | _ => judgeT P { t with tm := 0, tr := 0 })
  else (match n with
    | .ne => (t, [.se, .nd])
    | .sd => ({ t with tm := 0, tr := 100 }, [])
    | _ => (t, []))
def askedG (F : Nat) : List Sp → List Sp → List Sp
  | ag, [] => ag
  | ag, s :: r => askedG F (if ag.length < 1000 ∧ (s = (0, 0) ∨ s.1 < min s.2 F) then ag ++ [(s.1, min s.2 F)] else ag) r
def replyG (P : Par) (g : GS) (n : NT) : GS × List NT :=
  match n with
  | .nd => (if g.st = 3 then g else { g with st := 3, fi := false, pos := P.F, ag := [] }, [.sd])
  | .ng l => if g.st = 3 then (g, []) else ({ g with tm := 0, tr := 0, ag := askedG P.F g.ag l }, [])
  | .se => if g.st = 3 then (g, []) else ({ g with tm := 0, tr := 0, st := if g.st = 1 then 2 else g.st }, [])
  | _ => (g, [])
/-- some of what is on the way comes -/
def comesL {α : Type} (pick : Nat → Nat → Nat) (cp ls : Nat → Bool) : Nat → Nat → List α → List α × List α
  | _, 0, way => ([], way)
  | i, f + 1, way => match way[pick i way.length]? with
    | none => ([], way)
    | some x => ((if ls i = true then [] else [x]) ++ (comesL pick cp ls (i + 1) f (if cp i = true then way else way.eraseIdx (pick i way.length))).1, (comesL pick cp ls (i + 1) f (if cp i = true then way else way.eraseIdx (pick i way.length))).2)
def takesL (P : Par) : TS → List NT → TS × List NT
  | t, [] => (t, [])
  | t, n :: r => ((takesL P (takeT P t n).1 r).1, (takeT P t n).2 ++ (takesL P (takeT P t n).1 r).2)
def repliesL (P : Par) : GS → List NT → GS × List NT
  | g, [] => (g, [])
  | g, n :: r => ((repliesL P (replyG P g n).1 r).1, (replyG P g n).2 ++ (repliesL P (replyG P g n).1 r).2)
structure CS where
  g : GS
  t : TS
  dn : List NT
  up : List NT
/-- how a tick goes: how many come down and up, which, what is lost, what comes twice -/
structure HW where
  d : Nat
  u : Nat
  pick : Nat → Nat → Nat
  cp : Nat → Bool
  ls : Nat → Bool
def tickD (P : Par) (h : HW) (c : CS) : CS :=
  let a := comesL h.pick h.cp h.ls 0 h.d (c.dn ++ (giveG P c.g).2)
  let k := takesL P (waitT P c.t).1 a.1
  let e := comesL h.pick h.cp h.ls 0 h.u (c.up ++ (waitT P c.t).2 ++ k.2)
  let q := repliesL P (giveG P c.g).1 e.1
  ⟨q.1, k.1, a.2 ++ q.2, e.2⟩
def quietD : HW := ⟨1000, 1000, fun _ _ => 0, fun _ => false, fun _ => false⟩
end Go.Proofs.Ytopmamgdfngdoaa
