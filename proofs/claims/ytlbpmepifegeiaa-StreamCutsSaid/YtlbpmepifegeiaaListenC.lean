/- Stream: what a range of Listen gathers. -/
import Derived.Test.YtlbpmepifegeiaaListenI
import Derived.Test.YtlbpmepifegeiaaRangeP
import Derived.Test.YtlbpmepifegeiaaAppendIn
namespace Go.Proofs.Ytlbpmepifegeiaa
set_option linter.unusedVariables false
set_option linter.unusedSimpArgs false
open Go.RowKit

theorem Try.info33 : (Try.prog.info? 33).map (fun i => (i.zero, i.size, i.bytes)) = some (some (.slice none 0 0), 1, 24) := by kernel_rfl
theorem Try.info4 : (Try.prog.info? 4).map (fun i => (i.zero, i.size, i.bytes)) = some (some (.bool false), 1, 1) := by kernel_rfl
/-- what has been gathered in a box so far -/
structure CoI (V : World) (b B0 : Nat) (xs : List Fd) (W : World) : Prop where
  kept : KeptP (fun j => j = b) V W
  row : ∃ a n c, W.heap[b]? = some (.cells #[.slice a n c] 33) ∧ W.ownsRow V.heap.size 35 4 (.slice a n c) n (fcs xs) ∧ n = xs.length
  ins : ∀ f ∈ xs, f.In W B0
theorem CoI.start {V : World} {b B0 : Nat} (h : V.heap[b]? = some (.cells #[.slice none 0 0] 33)) : CoI V b B0 [] V :=
  ⟨KeptP.refl _ _, ⟨none, 0, 0, h, World.ownsRow_nil _ _ _ _, rfl⟩, fun f hf => nomatch hf⟩
theorem CoI.below {V : World} {b B0 : Nat} {xs : List Fd} {A B : World} (h : CoI V b B0 xs A) (hb : Below A.heap.size A B) : CoI V b B0 xs B := by
  obtain ⟨a, n, c, h1, h2, h3⟩ := h.row
  exact ⟨h.kept.trans (KeptP.below (S := fun _ => False) hb) (fun i _ hi => hi.elim), ⟨a, n, c, row_below h1 hb, ownsRow_below h2 hb, h3⟩, fun f hf => ⟨ownsRow_below (h.ins f hf).1 hb, (h.ins f hf).2⟩⟩
theorem grownBy_put (A : World) (l : Nat) (o : Obj) : A.grownBy (A.putObj l o) (some l) := grownBy_putObj' A l o
theorem own_put {A : World} {l : Nat} {o o' : Obj} (hl : A.heap[l]? = some o) (hc : o.isCells = false) {base e s n : Nat} {v : Value} {xs : List Value} (h : A.ownsRow base e s v n xs) : (A.putObj l o').ownsRow base e s v n xs := by
  refine h.kept (grownBy_put A l o') ?_
  by_cases hv : v.ownBlock = none
  · exact .inl hv
  · refine .inr (fun he => ?_)
    rcases h.2 with ⟨rfl, _⟩ | ⟨g, cap, cur, rfl, _, hg, _⟩
    · exact hv rfl
    · cases he
      rw [hg] at hl
      cases hl
      cases hc
theorem row_put {A : World} {l b : Nat} {o o' : Obj} {cs : Array Value} {T : TypeId} (hl : A.heap[l]? = some o) (hc : o.isCells = false) (h : A.heap[b]? = some (.cells cs T)) : (A.putObj l o').heap[b]? = some (.cells cs T) := by
  refine (World.putObj_heap_other ?_).trans h
  rintro rfl
  rw [h] at hl
  cases hl
  cases hc
theorem CoI.put {V : World} {b B0 : Nat} {xs : List Fd} {A : World} {l : Nat} {o o' : Obj} (h : CoI V b B0 xs A) (hV : V.heap.size ≤ l) (hl : A.heap[l]? = some o) (hc : o.isCells = false) : CoI V b B0 xs (A.putObj l o') := by
  obtain ⟨a, n, c, h1, h2, h3⟩ := h.row
  refine ⟨h.kept.trans (KeptP.grown (S := fun j => V.heap.size ≤ j) (grownBy_put A l o') (fun r hr => by cases hr; exact hV)) (fun i hi h2 => by omega), ⟨a, n, c, row_put hl hc h1, own_put hl hc h2, h3⟩, fun f hf => ⟨own_put hl hc (h.ins f hf).1, (h.ins f hf).2⟩⟩
/-- one more is put behind -/
theorem CoI.step {V W W2 W3 : World} {b B0 : Nat} {xs : List Fd} {x : Fd} (h : CoI V b B0 xs W) (hV : b < V.heap.size) {a : Option Addr} {n c : Nat} (hbox : W.heap[b]? = some (.cells #[.slice a n c] 33)) (hrow : W.ownsRow V.heap.size 35 4 (.slice a n c) n (fcs xs)) (hn : n = xs.length)
    (hx : x.In W B0) (b2 : Below W.heap.size W W2) {a' : Option Addr} {c' : Nat} (oV : W3.ownsRow V.heap.size 35 4 (.slice a' (n + 1) c') (n + 1) (fcs xs ++ x.cells)) (gV : W2.grownBy W3 (Value.slice a n c).ownBlock) :
    CoI V b B0 (xs ++ [x]) (W3.setCell ⟨b, 0, none⟩ (.slice a' (n + 1) c')) ∧ Below V.heap.size W W3 ∧ W3.heap[b]? = some (.cells #[.slice a n c] 33) := by
  have r2 := ownsRow_below hrow b2
  have x2 := row_below hbox b2
  have x3 := row_kept x2 r2 gV (by decide)
  obtain ⟨x4, g4⟩ := set_row (cs' := #[.slice a' (n + 1) c']) x3 0 (.slice a' (n + 1) c') rfl
  have hbV : Below V.heap.size W W3 := by
    refine (b2.mono h.kept.size).grown gV (Nat.le_trans h.kept.size b2.size) (fun k hk => ?_)
    exact (r2.lt k hk).1
  have ke : ∀ {f : Fd}, f.In W B0 → f.In (W3.setCell ⟨b, 0, none⟩ (.slice a' (n + 1) c')) B0 := fun hf => by
    have f2 := ownsRow_below hf.1 b2
    refine ⟨(f2.kept gV ?_).kept g4 ?_, hf.2⟩
    · exact own_apart f2 r2 (by decide)
    · exact own_ne (f2.kept gV (own_apart f2 r2 (by decide))) x3 (by decide)
  refine ⟨⟨?_, ⟨a', n + 1, c', x4, ?_, by rw [hn]; simp⟩, fun f hf => ?_⟩, hbV, x3⟩
  · exact (h.kept.trans (KeptP.mono (S := fun j => V.heap.size ≤ j) ⟨hbV.os, hbV.tape, hbV.output, Nat.le_trans b2.size gV.size, fun k hk hn => hbV.block k (by omega)⟩ (fun _ _ h => h)) (fun i hi h2 => by omega)).trans (KeptP.grown (S := fun j => j = b) g4 (fun r hr => by cases hr; rfl)) (fun _ _ h => h)
  · rw [fcs_snoc]; exact oV.kept g4 (own_ne oV x3 (by decide))
  · rcases List.mem_append.1 hf with h1 | h1
    · exact ke (h.ins f h1)
    · rw [List.mem_singleton] at h1; subst h1; exact ke hx
/-- Listen's frame behind Take -/
def lisG (AG : Value) (pb po pn pc b sb : Nat) (aa : Option Addr) (k ac : Nat) (qa : Option Addr) (qc : Nat) (la : Option Addr) (lc : Nat) (xa : Option Addr) (xn xc lb H : Nat) (z : Nat → Value) : Array Value :=
  #[AG, .slice (some ⟨pb, po, none⟩) pn pc, .pointer (some ⟨b, 0, none⟩), undef, .slice aa k ac, .slice qa k qc, .slice la k lc, .int .i64 0, .pointer (some ⟨sb, 0, none⟩), .nilIface, undef, .slice xa xn xc, .func (.func 18) #[] #[.pointer (some ⟨lb, 0, none⟩)], .pointer (some ⟨H, 0, none⟩), .pointer (some ⟨H + 1, 0, none⟩), z 15, z 16,
    .tuple #[.pointer (some ⟨sb, 0, none⟩), .nilIface], AG, .tuple #[.pointer (some ⟨sb, 0, none⟩), .nilIface], .pointer (some ⟨sb, 0, none⟩), .nilIface, .nilIface, .bool false, undef, undef, .pointer (some ⟨sb, 0, none⟩), .bool false, .slice (some ⟨pb, po, none⟩) pn pc, .int .i64 (pn : Int), .int .i64 (k : Int),
    .bool true, .pointer (some ⟨pb, po + k, none⟩), .slice xa xn xc, .pointer (some ⟨sb, 0, none⟩), .slice xa xn xc, .func (.func 18) #[] #[.pointer (some ⟨lb, 0, none⟩)], z 37, z 38, z 39, z 40, z 41, z 42, z 43, z 44, z 45, z 46, z 47, z 48, z 49, z 50, z 51, z 52, z 53, z 54, z 55, z 56, z 57, z 58, z 59, z 60, z 61, z 62, z 63, z 64, undef, undef, undef]
/-- what is known at the start of a round -/
structure GAx (fr : (Nat → Value) → Array Value) (slot : Nat) (V : World) (b B0 N : Nat) (pre : List Fd) (x : Fd) (a : Act) (W : World) : Prop where
  col : CoI V b B0 pre W
  lt : pre.length < N
  xin : x.In W B0
  fr : a.tmps = fr (fun i => a.tmps.getD i undef)
  box : ∃ cb, a.tmps.getD slot undef = .pointer (some ⟨cb, 0, none⟩) ∧ W.heap[cb]? = some (.cells x.cells.toArray 35)
theorem GAx.put {fr : (Nat → Value) → Array Value} {slot : Nat} {V : World} {b B0 N : Nat} {pre : List Fd} {x : Fd} {a : Act} {A : World} {l : Nat} {o o' : Obj} (h : GAx fr slot V b B0 N pre x a A) (hV : V.heap.size ≤ l) (hl : A.heap[l]? = some o) (hc : o.isCells = false) : GAx fr slot V b B0 N pre x a (A.putObj l o') := by
  obtain ⟨cb, h1, h2⟩ := h.box
  exact ⟨h.col.put hV hl hc, h.lt, ⟨own_put hl hc h.xin.1, h.xin.2⟩, h.fr, cb, h1, row_put hl hc h2⟩
theorem below_put {B : Nat} {A : World} {l : Nat} {o o' : Obj} (hB : B ≤ l) (hl : A.heap[l]? = some o) : Below B A (A.putObj l o') :=
  (Below.refl _ _).grown (grownBy_put A l o') (by have := row_lt hl; omega) (fun k e => by cases e; exact hB)
theorem own_cells {W : World} {base e s n : Nat} {v : Value} {xs : List Value} (h : W.ownsRow base e s v n xs) : ∀ (j : Nat) (o : Obj), v.ownBlock = some j → W.heap[j]? = some o → o.isCells = true := by
  intro j o hj ho
  rcases h.2 with ⟨rfl, _⟩ | ⟨g, cap, cur, rfl, _, hg, _⟩
  · cases hj
  · cases hj
    rw [hg] at ho
    cases ho
    rfl
/-- a range that is left in its first round, if it has one -/
theorem range_brk {α : Type} {n : Nat} {g : Operand} {ps : Array Tmp} {P : Program} {id bk : Nat} {Q : Exit → Act → World → Prop} {a : Act} {w : World} {gf : Nat} {lb : Array Value} (h1 : 1 ≤ n)
    (hg : a.eval g = .func (.func gf) #[] lb) (eg : ∀ args w, (callFunc gf args).run P w = .ok (.enter gf args) w) (encs : α → Array Value) (hps : ∀ x, (encs x).size = ps.size)
    (Px : List α → α → World → Prop) (N B0 : Nat) (hB0 : B0 ≤ w.heap.size) (S Sp : List α → Prop)
    (hseq : ∀ (l : Nat) (J Jx : List α → World → Prop), (∀ pre A B, J pre A → Below A.heap.size A B → J pre B) →
      (∀ pre x W, J pre W → pre.length < N → Px pre x W → YieldAt Fence.wide (n - 1 - 1) P l (encs x) W fun e W' => (e = .returned (.bool true) ∧ J (pre ++ [x]) W' ∧ Below B0 W W') ∨ (e = .returned (.bool false) ∧ Jx (pre ++ [x]) W')) →
      ∀ W, Below w.heap.size w W → J [] W → CallsIn Fence.wide (n - 1) P gf (#[.func (.yield l) #[] #[]] ++ lb) W fun e W' => (∃ v, e = .returned v) ∧ ((∃ xs, S xs ∧ J xs W') ∨ (∃ pre, Sp pre ∧ Jx pre W')))
    (hQ : ∀ a W, Q .normal a W → Q (.exit id) a W) (hid : id ≠ bk)
    (hgo : ∀ (D : Nat) (W : World), w.heap.size ≤ D → Below w.heap.size w W → W.heap[D]? = some (.deferred (some [])) → Q .normal { a with defers := { target := .collected D, args := #[] } :: a.defers } W) :
    (Code.rangeFunc g ps .skip (.block bk (.exit id))).wpIn Fence.wide n P Q a w := by
  refine range_px h1 hg eg encs hps Px N (Below B0) S Sp (fun _ W => Below w.heap.size w W) (fun _ W => Below w.heap.size w W) id (fun _ _ _ W => Below w.heap.size w W)
    (fun _ _ _ h k => h.trans k) (fun A l o o' hl hA _ => below_put (Nat.le_trans hB0 hl) hA) (fun _ A B h hb => h.trans (hb.mono h.size)) (fun _ _ _ _ _ h hl ho hc => h.trans (below_put hl ho)) (fun _ _ _ _ _ h hl ho hc => h.trans (below_put hl ho)) (fun _ _ _ _ _ _ _ h hl ho hc => h.trans (below_put hl ho)) hseq (Below.refl _ _) ?_ ?_ ?_ ?_
  · intro l pre x W K hI _ _ hK
    exact wpIn_skip (hK _ _ (KeepsFrom.refl _ _) (Below.refl _ _) hI)
  · intro l pre x a' W hA
    refine wpIn_block (wpIn_exit ?_)
    simp only [Exit.inBlock, hid, if_false]
    exact ⟨rfl, KeepsFrom.refl _ _, hA⟩
  · intro D xs W hD _ hI hk
    exact hgo D W hD hI hk
  · intro D pre W hD _ hI hk
    exact wpIn_exit (hQ _ _ (hgo D W hD hI hk))
theorem Marks.keptP {B : Nat} {ds : List Deferred} {W W' : World} {S : Nat → Prop} (h : Marks B ds W) (hk : KeptP S W W') (hS : ∀ j o, S j → W.heap[j]? = some o → o.isCells = true) : Marks B ds W' :=
  h.mono fun D _ _ hD => (hk.block D (row_lt hD) (fun hs => by have := hS D _ hs hD; cases this)).trans hD
end Go.Proofs.Ytlbpmepifegeiaa
