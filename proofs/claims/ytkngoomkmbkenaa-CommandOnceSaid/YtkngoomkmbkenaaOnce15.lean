/- A link in memory. -/
import Derived.Test.YtkngoomkmbkenaaOnce14
import Derived.Test.YtkngoomkmbkenaaOnce5
import Derived.Test.YtkngoomkmbkenaaOnce6
import Derived.StillTailTactics
namespace Go.Proofs.Ytkngoomkmbkenaa
set_option linter.unusedVariables false
open Go.RowKit

structure LS where
  x : WS
  g : Gt
  wa : Option Addr
  wn : Nat
  wc : Nat
  Rw : List RB
  oa : Option Addr
  on : Nat
  oc : Nat
  Ro : List RB
  da : Option Addr
  dn : Nat
  dc : Nat
  ds : List Nat
  A : Nat
  st : Int
  hd : Bool
def LS.wv (s : LS) : Value := .slice s.wa s.wn s.wc
def LS.ov (s : LS) : Value := .slice s.oa s.on s.oc
def LS.dv (s : LS) : Value := .slice s.da s.dn s.dc
def LS.cells (s : LS) : Array Value := #[.int .i64 3, .int .i64 (s.x.N : Int), .int .i64 (s.x.ah : Int), .slice s.x.sa s.x.sn s.x.sc, .slice s.x.qa s.x.qn s.x.qc, .int .i64 (s.x.tm : Int), .int .i64 (s.x.pt : Int), .int .i64 (s.x.tr : Int), .int .i64 100, .int .i64 (s.x.si : Int), .int .i64 (s.x.pz : Int), .int .i64 (s.x.ha : Int),
  .int .i64 s.g.cr, .int .i64 s.g.nx, .int .i64 s.g.hf, .bool s.g.sh, .bool s.g.wa, .bool s.g.ag, .int .i64 s.g.ct, .slice s.wa s.wn s.wc, .slice s.oa s.on s.oc, .slice s.da s.dn s.dc, .int .i64 (s.A : Int), .int .i64 s.st, .bool s.hd]
/-- no row lies in the block of v -/
def OffR (v : Value) (R : List RB) : Prop := ∀ r ∈ R, Apart v (.slice r.1.1 r.1.2.1 r.1.2.2)
structure LR (W : World) (B : Nat) (s : LS) : Prop where
  so : OwnAt W B 31 s.x.sv s.x.sn (rcs s.x.Rs)
  qo : OwnAt W B 31 s.x.qv s.x.qn (rcs s.x.Rq)
  wo : OwnAt W B 31 s.wv s.wn (rcs s.Rw)
  oo : OwnAt W B 31 s.ov s.on (rcs s.Ro)
  dO : OwnAt W B 5 s.dv s.dn (vb s.ds)
  sr : RR W B s.x.Rs
  qr : RR W B s.x.Rq
  wr : RR W B s.Rw
  or : RR W B s.Ro
  sw : Apart s.x.sv s.wv
  qw : Apart s.x.qv s.wv
  sO : Apart s.x.sv s.ov
  qO : Apart s.x.qv s.ov
  wO : Apart s.wv s.ov
  fs : OffR s.dv s.x.Rs
  fq : OffR s.dv s.x.Rq
  fw : OffR s.dv s.Rw
  fo : OffR s.dv s.Ro
theorem LR.below {W W' : World} {B : Nat} {s : LS} (h : LR W B s) (hb : Below W.heap.size W W') : LR W' B s :=
  ⟨h.so.below hb, h.qo.below hb, h.wo.below hb, h.oo.below hb, h.dO.below hb, h.sr.below hb, h.qr.below hb, h.wr.below hb, h.or.below hb, h.sw, h.qw, h.sO, h.qO, h.wO, h.fs, h.fq, h.fw, h.fo⟩
theorem LR.other {W W' : World} {B k T : Nat} {s : LS} {cs : Array Value} (h : LR W B s) (hg : W.grownBy W' (some k)) (hk : W.heap[k]? = some (.cells cs T)) (h1 : 31 ≠ T) (h2 : 5 ≠ T) : LR W' B s :=
  have h2' : T ≠ 5 := fun e => h2 e.symm
  ⟨h.so.kept hg (h.so.ne hk h1), h.qo.kept hg (h.qo.ne hk h1), h.wo.kept hg (h.wo.ne hk h1), h.oo.kept hg (h.oo.ne hk h1), h.dO.kept hg (h.dO.ne hk h2),
   h.sr.kept hg (row_type hk h2'), h.qr.kept hg (row_type hk h2'), h.wr.kept hg (row_type hk h2'), h.or.kept hg (row_type hk h2'), h.sw, h.qw, h.sO, h.qO, h.wO, h.fs, h.fq, h.fw, h.fo⟩
structure LM (W : World) (L B : Nat) (s : LS) : Prop where
  bx : W.heap[L]? = some (.cells s.cells 44)
  lr : LR W B s
theorem LM.below {W W' : World} {L B : Nat} {s : LS} (h : LM W L B s) (hb : Below W.heap.size W W') : LM W' L B s := ⟨row_below h.bx hb, h.lr.below hb⟩
theorem LM.set {W W' : World} {L B : Nat} {s s' : LS} (h : LM W L B s) (hg : W.grownBy W' (some L)) (hn : W'.heap[L]? = some (.cells s'.cells 44)) (hr : LR W B s') : LM W' L B s' :=
  ⟨hn, hr.other hg h.bx (by decide) (by decide)⟩
theorem LM.other {W W' : World} {L B k T : Nat} {s : LS} {cs : Array Value} (h : LM W L B s) (hg : W.grownBy W' (some k)) (hk : W.heap[k]? = some (.cells cs T)) (h1 : 31 ≠ T) (h2 : 5 ≠ T) (h3 : 44 ≠ T) : LM W' L B s :=
  ⟨row_grown h.bx hg (ne_tt h.bx hk h3), h.lr.other hg hk h1 h2⟩
theorem LR.nums {W : World} {B : Nat} {s : LS} (h : LR W B s) (g : Gt) (A : Nat) (st : Int) (hd : Bool) : LR W B { s with g := g, A := A, st := st, hd := hd } :=
  ⟨h.so, h.qo, h.wo, h.oo, h.dO, h.sr, h.qr, h.wr, h.or, h.sw, h.qw, h.sO, h.qO, h.wO, h.fs, h.fq, h.fw, h.fo⟩
theorem own_apart {W : World} {B e e' n m : Nat} {u v : Value} {xs ys : List Value} (hu : OwnAt W B e u n xs) (hv : OwnAt W B e' v m ys) (he : e ≠ e') : Apart u v := fun k h1 h2 => by
  rcases hu.2 with ⟨h, _⟩ | ⟨g, o, cap, cur, h, _, h3, _⟩
  · rw [h] at h1; cases h1
  · rw [h] at h1
    cases h1
    rcases hv.ne h3 (fun e => he e.symm) with h4 | h4
    · rw [h4] at h2; cases h2
    · exact h4 h2
theorem off_new {W : World} {B : Nat} {v : Value} {n : Nat} {xs : List Value} {R : List RB} (hv : OwnAt W B 5 v n xs) (hR : ∀ r ∈ R, Lo W.heap.size r) : OffR v R := fun r hr k h1 h2 => by
  have a := (hv.lt k h1).2
  have b := hR r hr k h2
  omega
/-- the hand is new -/
theorem LR.hand {W W' : World} {B : Nat} {s : LS} {x2 : WS} (h : LR W B s) (hb : Below W.heap.size W W') (hB : B ≤ W.heap.size) (ho : RO W' W.heap.size x2) : LR W' B { s with x := x2 } := by
  have ap : ∀ {u v : Value} {n m : Nat} {xs ys : List Value}, OwnAt W' W.heap.size 31 u n xs → OwnAt W B 31 v m ys → Apart u v := fun hu hv k h1 h2 => by
    have a := (hu.lt k h1).1
    have b := (hv.lt k h2).2
    omega
  exact ⟨ho.so.mono hB, ho.qo.mono hB, h.wo.below hb, h.oo.below hb, h.dO.below hb, ho.sr.mono hB, ho.qr.mono hB, h.wr.below hb, h.or.below hb, ap ho.so h.wo, ap ho.qo h.wo, ap ho.so h.oo, ap ho.qo h.oo, h.wO,
    off_new h.dO (fun r hr => (ho.sr r hr).2), off_new h.dO (fun r hr => (ho.qr r hr).2), h.fw, h.fo⟩
theorem OffR.append {v : Value} {R S : List RB} (h : OffR v R) (k : OffR v S) : OffR v (R ++ S) := fun r hr => by
  rcases List.mem_append.1 hr with h1 | h1
  · exact h r h1
  · exact k r h1
/-- frames go onto the way -/
theorem LR.wapp {W W' : World} {B m : Nat} {s : LS} {va : Option Addr} {vc : Nat} {R : List RB} (h : LR W B s) (ho : OwnAt W' B 31 (.slice va (s.wn + m) vc) (s.wn + m) (rcs s.Rw ++ rcs R)) (hg : W.grownBy W' s.wv.ownBlock) (hw : (Value.slice va (s.wn + m) vc).ownBlock = s.wv.ownBlock ∨ ∃ k, (Value.slice va (s.wn + m) vc).ownBlock = some k ∧ W.heap.size ≤ k)
    (hr : RR W B R) (hf : OffR s.dv R) : LR W' B { s with wa := va, wn := s.wn + m, wc := vc, Rw := s.Rw ++ R } := by
  have t5 := at_type h.wo (T' := 5) (by decide)
  refine ⟨h.so.kept hg h.sw.symm.ne, h.qo.kept hg h.qw.symm.ne, ?_, h.oo.kept hg h.wO.ne, h.dO.kept hg (own_apart h.wo h.dO (by decide)).ne, h.sr.kept hg t5, h.qr.kept hg t5, (h.wr.kept hg t5).append (hr.kept hg t5), h.or.kept hg t5, apart_new h.so h.sw hw, apart_new h.qo h.qw hw, h.sO, h.qO, (apart_new h.oo h.wO.symm hw).symm, h.fs, h.fq, h.fw.append hf, h.fo⟩
  show OwnAt W' B 31 (.slice va (s.wn + m) vc) (s.wn + m) (rcs (s.Rw ++ R))
  rw [rcs_append]
  exact ho
/-- frames are kept -/
theorem LR.oapp {W W' : World} {B m : Nat} {s : LS} {va : Option Addr} {vc : Nat} {R : List RB} (h : LR W B s) (ho : OwnAt W' B 31 (.slice va (s.on + m) vc) (s.on + m) (rcs s.Ro ++ rcs R)) (hg : W.grownBy W' s.ov.ownBlock) (hw : (Value.slice va (s.on + m) vc).ownBlock = s.ov.ownBlock ∨ ∃ k, (Value.slice va (s.on + m) vc).ownBlock = some k ∧ W.heap.size ≤ k)
    (hr : RR W B R) (hf : OffR s.dv R) : LR W' B { s with oa := va, on := s.on + m, oc := vc, Ro := s.Ro ++ R } := by
  have t5 := at_type h.oo (T' := 5) (by decide)
  refine ⟨h.so.kept hg h.sO.symm.ne, h.qo.kept hg h.qO.symm.ne, h.wo.kept hg h.wO.symm.ne, ?_, h.dO.kept hg (own_apart h.oo h.dO (by decide)).ne, h.sr.kept hg t5, h.qr.kept hg t5, h.wr.kept hg t5, (h.or.kept hg t5).append (hr.kept hg t5), h.sw, h.qw, apart_new h.so h.sO hw, apart_new h.qo h.qO hw, apart_new h.wo h.wO hw, h.fs, h.fq, h.fw, h.fo.append hf⟩
  show OwnAt W' B 31 (.slice va (s.on + m) vc) (s.on + m) (rcs (s.Ro ++ R))
  rw [rcs_append]
  exact ho
theorem RdT.keptOff {T : TypeId} {w w' : World} {ao : Option Addr} {n c : Nat} {xs : List Value} {v : Value} (h : RdT T w ao n c xs) (hg : w.grownBy w' v.ownBlock) (hne : Apart v (.slice ao n c)) : RdT T w' ao n c xs := by
  refine ⟨h.rd.grown hg (fun b off hn ha e => ?_), fun hn => ?_⟩
  · subst ha
    exact hne b e.symm rfl
  · obtain ⟨b', off', cs, h1, h2⟩ := h.ty hn
    refine ⟨b', off', cs, h1, (hg.block b' (row_lt h2) (fun e => ?_)).trans h2⟩
    subst h1
    exact hne b' e.symm rfl
theorem RR.keptOff {W W' : World} {B : Nat} {R : List RB} {v : Value} (h : RR W B R) (hg : W.grownBy W' v.ownBlock) (hf : OffR v R) : RR W' B R := fun r hr => ⟨(h r hr).1.keptOff hg (hf r hr), (h r hr).2⟩
theorem OffR.new {W : World} {B : Nat} {v v' : Value} {R : List RB} (h : OffR v R) (hr : RR W B R) (hp : ∀ r ∈ R, 0 < r.2.length) (hw : v'.ownBlock = v.ownBlock ∨ ∃ k, v'.ownBlock = some k ∧ W.heap.size ≤ k) : OffR v' R := fun r hm k h1 h2 => by
  rcases hw with e | ⟨k', e1, e2⟩
  · exact h r hm k (by rw [← e]; exact h1) h2
  · rw [e1] at h1
    cases h1
    have h3 := (hr r hm).1
    have h4 := h3.rd.len
    rw [vb_len] at h4
    obtain ⟨b, off, cs, h5, h6⟩ := h3.ty (by have := hp r hm; omega)
    have h7 := row_lt h6
    rw [h5] at h2
    simp only [Value.ownBlock, Option.some.injEq] at h2
    omega
/-- something is done -/
theorem LR.dapp {W W' : World} {B d : Nat} {s : LS} {va : Option Addr} {vc : Nat} (h : LR W B s) (ho : OwnAt W' B 5 (.slice va (s.dn + 1) vc) (s.dn + 1) (vb s.ds ++ vb [d])) (hg : W.grownBy W' s.dv.ownBlock) (hw : (Value.slice va (s.dn + 1) vc).ownBlock = s.dv.ownBlock ∨ ∃ k, (Value.slice va (s.dn + 1) vc).ownBlock = some k ∧ W.heap.size ≤ k)
    (p1 : ∀ r ∈ s.x.Rs, 0 < r.2.length) (p2 : ∀ r ∈ s.x.Rq, 0 < r.2.length) (p3 : ∀ r ∈ s.Rw, 0 < r.2.length) (p4 : ∀ r ∈ s.Ro, 0 < r.2.length) : LR W' B { s with da := va, dn := s.dn + 1, dc := vc, ds := s.ds ++ [d] } := by
  refine ⟨h.so.kept hg (own_apart h.dO h.so (by decide)).ne, h.qo.kept hg (own_apart h.dO h.qo (by decide)).ne, h.wo.kept hg (own_apart h.dO h.wo (by decide)).ne, h.oo.kept hg (own_apart h.dO h.oo (by decide)).ne, ?_, h.sr.keptOff hg h.fs, h.qr.keptOff hg h.fq, h.wr.keptOff hg h.fw, h.or.keptOff hg h.fo, h.sw, h.qw, h.sO, h.qO, h.wO, h.fs.new h.sr p1 hw, h.fq.new h.qr p2 hw, h.fw.new h.wr p3 hw, h.fo.new h.or p4 hw⟩
  show OwnAt W' B 5 (.slice va (s.dn + 1) vc) (s.dn + 1) (vb (s.ds ++ [d]))
  rw [vb_append]
  exact ho
/-- the first frame leaves the way -/
theorem LR.wpop {W : World} {B : Nat} {s : LS} (h : LR W B s) (hn : 1 ≤ s.wn) : ∃ wa wc, (∀ w, (Instr.sliceAt 34 (.slice s.wa s.wn s.wc) (some (.int .i64 1)) none none).run Try.prog w = .ok (.slice wa (s.wn - 1) wc) w) ∧ LR W B { s with wa := wa, wn := s.wn - 1, wc := wc, Rw := s.Rw.drop 1 } := by
  have hrow : rcs (s.Rw.drop 1) = (rcs s.Rw).drop 1 := by unfold rcs; rw [List.map_drop]
  have hwr : RR W B (s.Rw.drop 1) := fun r hr => h.wr r (List.mem_of_mem_drop hr)
  have hfw : OffR s.dv (s.Rw.drop 1) := fun r hr => h.fw r (List.mem_of_mem_drop hr)
  have hwo := h.wo
  unfold LS.wv at hwo
  rcases hwo.2 with ⟨_, h2⟩ | ⟨g, o, cap, cur, h1, _⟩
  · omega
  · injection h1 with e1 e2 e3
    subst e3
    rw [e1] at hwo
    refine ⟨some ⟨g, if s.wc = 1 then o else o + 1, none⟩, s.wc - 1, fun w => by rw [e1]; exact run_cut34 g o s.wn s.wc 1 hn w, ?_⟩
    have hd := hwo.drop 1 hn
    have hob : (Value.slice (some ⟨g, if s.wc = 1 then o else o + 1, none⟩) (s.wn - 1) (s.wc - 1)).ownBlock = s.wv.ownBlock := by unfold LS.wv; rw [e1]; rfl
    exact ⟨h.so, h.qo, by rw [hrow]; exact hd, h.oo, h.dO, h.sr, h.qr, hwr, h.or, fun k h1 h2 => h.sw k h1 (by rw [← hob]; exact h2), fun k h1 h2 => h.qw k h1 (by rw [← hob]; exact h2), h.sO, h.qO, fun k h1 => h.wO k (by rw [← hob]; exact h1), h.fs, h.fq, hfw, h.fo⟩
end Go.Proofs.Ytkngoomkmbkenaa
/- command.Decode of what Encode made: the walk. -/
namespace Go.Proofs.Ytkngoomkmbkenaa
set_option linter.unusedVariables false
open Go.RowKit

theorem or_low (a b : Nat) (hb : b < 256) : a * 256 ||| b = a * 256 + b := by
  have h := Nat.two_pow_add_eq_or_of_lt (i := 8) (b := b) hb a
  rw [Nat.mul_comm a 256]
  exact h.symm
theorem or_word (a b f : Nat) (hb : b < 256) (hf : a * 256 + b = f) (hs : f < 65536) : bits .or .i64 ((a : Int) * 256) (b : Int) = (f : Int) := by
  have h := i64_or_nat (a * 256) b (by omega) (by omega)
  rw [or_low a b hb, hf, Int.natCast_mul] at h
  exact h

theorem encO_len (cr : Nat) (by_ co : Bool) (sq : Nat) (ds : List Nat) : (encO cr by_ co sq ds).length = ds.length + 7 := by
  unfold encO
  rw [List.length_append, bodyO_len]; simp; omega
theorem encO_take (cr : Nat) (by_ co : Bool) (sq : Nat) (ds : List Nat) : (encO cr by_ co sq ds).take (ds.length + 5) = bodyO cr by_ co sq ds := by
  unfold encO
  rw [List.take_append_of_le_length (by rw [bodyO_len]; omega), List.take_of_length_le (by rw [bodyO_len]; omega)]
theorem encO_mid (cr : Nat) (by_ co : Bool) (sq : Nat) (ds : List Nat) : ((encO cr by_ co sq ds).drop 5).take ds.length = ds := by
  unfold encO bodyO headO
  simp
theorem encO_s0 (cr : Nat) (by_ co : Bool) (sq : Nat) (ds : List Nat) : nth (encO cr by_ co sq ds) (ds.length + 5) = sumN (bodyO cr by_ co sq ds) / 256 := by
  unfold encO nth
  rw [List.getD_eq_getElem?_getD, List.getElem?_append_right (by rw [bodyO_len]; omega), bodyO_len, show ds.length + 5 - (5 + ds.length) = 0 by omega]
  rfl
theorem encO_s1 (cr : Nat) (by_ co : Bool) (sq : Nat) (ds : List Nat) : nth (encO cr by_ co sq ds) (ds.length + 6) = sumN (bodyO cr by_ co sq ds) % 256 := by
  unfold encO nth
  rw [List.getD_eq_getElem?_getD, List.getElem?_append_right (by rw [bodyO_len]; omega), bodyO_len, show ds.length + 6 - (5 + ds.length) = 1 by omega]
  rfl
theorem encO_head (cr : Nat) (by_ co : Bool) (sq : Nat) (ds : List Nat) (k : Nat) (hk : k < 5) : nth (encO cr by_ co sq ds) k = nth (headO cr by_ co sq ds.length) k := by
  unfold encO bodyO nth
  rw [List.getD_eq_getElem?_getD, List.getD_eq_getElem?_getD, List.getElem?_append_left (by simp [headO]; omega), List.getElem?_append_left (by simp [headO]; omega)]

theorem first_bits : ∀ cr, cr < 1024 → ∀ by_ co : Bool, firstO cr by_ co &&& 1023 = cr ∧ ((firstO cr by_ co &&& 8192) != 0) = by_ ∧ ((firstO cr by_ co &&& 4096) != 0) = co ∧ firstO cr by_ co &&& 52224 = 0 := by decide +kernel
theorem cast_ne (x : Nat) : (((x : Nat) : Int) != 0) = (x != 0) := by cases x <;> simp; omega
theorem below_alloc2 {B0 : Nat} (u : World) (o o' : Obj) (h : B0 ≤ u.heap.size) : Below B0 (u.alloc o) (u.alloc o') :=
  ⟨rfl, rfl, rfl, by simp, fun k hk => by
    have h1 := (below_alloc u o).block k (by omega)
    have h2 := (below_alloc u o').block k (by omega)
    rw [h1, h2]⟩

/-- five cells are written over, one by one -/
theorem five {W : World} {b : Nat} {e : TypeId} {o0 o1 o2 o3 o4 : Value} (A : W.heap[b]? = some (.cells #[o0, o1, o2, o3, o4] e)) (v0 v1 v2 v3 v4 : Value) :
    (((((W.setCell ⟨b, 0, none⟩ v0).setCell ⟨b, 1, none⟩ v1).setCell ⟨b, 2, none⟩ v2).setCell ⟨b, 3, none⟩ v3).setCell ⟨b, 4, none⟩ v4).heap[b]? = some (.cells #[v0, v1, v2, v3, v4] e) ∧ W.grownBy (((((W.setCell ⟨b, 0, none⟩ v0).setCell ⟨b, 1, none⟩ v1).setCell ⟨b, 2, none⟩ v2).setCell ⟨b, 3, none⟩ v3).setCell ⟨b, 4, none⟩ v4) (some b) := by
  have h0 : (W.setCell ⟨b, 0, none⟩ v0).heap[b]? = some (.cells #[v0, o1, o2, o3, o4] e) := heap_setCell_same W b 0 _ e v0 A
  have h1 : ((W.setCell ⟨b, 0, none⟩ v0).setCell ⟨b, 1, none⟩ v1).heap[b]? = some (.cells #[v0, v1, o2, o3, o4] e) := heap_setCell_same (W.setCell ⟨b, 0, none⟩ v0) b 1 _ e v1 h0
  have h2 : (((W.setCell ⟨b, 0, none⟩ v0).setCell ⟨b, 1, none⟩ v1).setCell ⟨b, 2, none⟩ v2).heap[b]? = some (.cells #[v0, v1, v2, o3, o4] e) := heap_setCell_same ((W.setCell ⟨b, 0, none⟩ v0).setCell ⟨b, 1, none⟩ v1) b 2 _ e v2 h1
  have h3 : ((((W.setCell ⟨b, 0, none⟩ v0).setCell ⟨b, 1, none⟩ v1).setCell ⟨b, 2, none⟩ v2).setCell ⟨b, 3, none⟩ v3).heap[b]? = some (.cells #[v0, v1, v2, v3, o4] e) := heap_setCell_same (((W.setCell ⟨b, 0, none⟩ v0).setCell ⟨b, 1, none⟩ v1).setCell ⟨b, 2, none⟩ v2) b 3 _ e v3 h2
  have h4 : (((((W.setCell ⟨b, 0, none⟩ v0).setCell ⟨b, 1, none⟩ v1).setCell ⟨b, 2, none⟩ v2).setCell ⟨b, 3, none⟩ v3).setCell ⟨b, 4, none⟩ v4).heap[b]? = some (.cells #[v0, v1, v2, v3, v4] e) := heap_setCell_same ((((W.setCell ⟨b, 0, none⟩ v0).setCell ⟨b, 1, none⟩ v1).setCell ⟨b, 2, none⟩ v2).setCell ⟨b, 3, none⟩ v3) b 4 _ e v4 h3
  have g0 := grown1 W b 0 v0
  have g1 := grownBy_trans g0 (grown1 _ b 1 v1)
  have g2 := grownBy_trans g1 (grown1 _ b 2 v2)
  have g3 := grownBy_trans g2 (grown1 _ b 3 v3)
  have g4 := grownBy_trans g3 (grown1 _ b 4 v4)
  exact ⟨h4, g4⟩

theorem sum_st (a : Option Addr) (n c : Nat) (bs : List Nat) (hb : AllB bs) (hn : n ≤ 140737488355328) (w : World) (hr : Rd w a n c (vb bs)) :
    Calls Try.prog 21 #[.slice a n c] w fun e w' => e = .returned (.int .i64 ((sumN bs : Nat) : Int)) ∧ w' = w :=
  (sum_ok a n c bs hb hn w hr).mono fun e w' ⟨s, he, _, hs, hw⟩ => ⟨by rw [he, hs.out], hw.symm⟩

set_option maxHeartbeats 4000000 in
theorem decode_far (cr : Nat) (by_ co : Bool) (sq : Nat) (ds : List Nat) (a : Option Addr) (n c : Nat) (w : World) (hn : ds.length = n) (hr : Rd w a (n + 7) c (vb (encO cr by_ co sq ds))) (hd : AllB ds) (h1 : cr ≤ 1023) (h2 : sq ≤ 255) (h3 : co = true → by_ = true) (h4 : 1 ≤ n) (h5 : n ≤ 1017) :
    Calls Try.prog 9 #[.slice a (n + 7) c] w fun e w' => ∃ ao cc, e = .returned (.tuple #[.agg (ocells cr by_ co sq ao n cc), .int .i64 0]) ∧ Rd w' ao n cc (vb ds) ∧ Below w.heap.size w w' ∧ (∀ b off, 0 < n → ao = some ⟨b, off, none⟩ → w.heap.size ≤ b) := by
  have hf := firstO_lt cr by_ co h1
  have hall := bodyO_all cr by_ co sq ds h1 h2 hd (by rw [hn]; exact h5)
  have hss := sumN_lt _ hall
  obtain ⟨rb, ro, rfl, hrl, e0⟩ := hr.cell 0 (by omega)
  have ek : ∀ k, k < n + 7 → w.cell? ⟨rb, ro + k, none⟩ = some (.int .u8 (nth (encO cr by_ co sq ds) k : Nat)) := fun k hk => by
    obtain ⟨b', o', hb', _, hc⟩ := hr.cell k hk
    cases hb'; exact hc
  have e1 := ek 1 (by omega)
  have e2 := ek 2 (by omega)
  have e3 := ek 3 (by omega)
  have e4 := ek 4 (by omega)
  have e5 := ek (n + 5) (by omega)
  have e6 := ek (n + 6) (by omega)
  rw [encO_head _ _ _ _ _ _ (by decide)] at e0 e1 e2 e3 e4
  rw [← hn, encO_s0] at e5
  rw [← hn, encO_s1] at e6
  rw [hn] at e0 e1 e2 e3 e4 e5 e6
  have e0 : w.cell? ⟨rb, ro, none⟩ = some (.int .u8 (firstO cr by_ co / 256 : Nat)) := e0
  have e1 : w.cell? ⟨rb, ro + 1, none⟩ = some (.int .u8 (firstO cr by_ co % 256 : Nat)) := e1
  have e2 : w.cell? ⟨rb, ro + 2, none⟩ = some (.int .u8 ((n + 6) / 256 : Nat)) := e2
  have e3 : w.cell? ⟨rb, ro + 3, none⟩ = some (.int .u8 ((n + 6) % 256 : Nat)) := e3
  have e4 : w.cell? ⟨rb, ro + 4, none⟩ = some (.int .u8 (sq : Nat)) := e4
  have p1 : bits .or .i64 (((firstO cr by_ co / 256 : Nat) : Int) * 256) ((firstO cr by_ co % 256 : Nat) : Int) = (firstO cr by_ co : Int) := or_word _ _ _ (by omega) (by omega) (by omega)
  have p2 : bits .or .i64 ((((n + 6) / 256 : Nat) : Int) * 256) (((n + 6) % 256 : Nat) : Int) = ((n + 6 : Nat) : Int) := or_word _ _ _ (by omega) (by omega) (by omega)
  have p3 : bits .and .i64 ((n + 6 : Nat) : Int) 1023 = ((n + 6 : Nat) : Int) := by
    have := and_mask ((n + 6 : Nat) : Int) 10 (by decide)
    rw [show ((2 ^ 10 - 1 : Nat) : Int) = 1023 by decide] at this
    rw [this]; omega
  clear ek
  have hfb0 : firstO cr by_ co / 256 < 256 := by omega
  have hfb1 : firstO cr by_ co % 256 < 256 := by omega
  have hlb0 : (n + 6) / 256 < 256 := by omega
  have hlb1 : (n + 6) % 256 < 256 := by omega
  have hF : Hid (firstO cr by_ co = firstO cr by_ co) := rfl
  generalize hb0 : firstO cr by_ co / 256 = b0 at *
  generalize hb1 : firstO cr by_ co % 256 = b1 at *
  generalize hb2 : (n + 6) / 256 = b2 at *
  generalize hb3 : (n + 6) % 256 = b3 at *
  clear hb0 hb1 hb2 hb3
  go_enter Try.func9, Try.ntmps9
  go_wp2_with fail
  have A := heap_alloc_new w (.cells #[.int .i64 0, .bool false, .bool false, .int .i64 0, .slice none 0 0] 33)
  have BA := below_alloc w (.cells #[.int .i64 0, .bool false, .bool false, .int .i64 0, .slice none 0 0] 33)
  generalize w.alloc (.cells #[.int .i64 0, .bool false, .bool false, .int .i64 0, .slice none 0 0] 33) = V at *
  have e0 := (BA.cell (p := ⟨rb, ro, none⟩) hrl).trans e0
  have e1 := (BA.cell (p := ⟨rb, ro + 1, none⟩) hrl).trans e1
  have e2 := (BA.cell (p := ⟨rb, ro + 2, none⟩) hrl).trans e2
  have e3 := (BA.cell (p := ⟨rb, ro + 3, none⟩) hrl).trans e3
  have e4 := (BA.cell (p := ⟨rb, ro + 4, none⟩) hrl).trans e4
  have e5 := (BA.cell (p := ⟨rb, ro + (n + 5), none⟩) hrl).trans e5
  have e6 := (BA.cell (p := ⟨rb, ro + (n + 6), none⟩) hrl).trans e6
  have hrV := hr.below BA
  refine (in_yes _ _ _ _ (by omega)).mono ?_
  rintro e w' ⟨rfl, rfl⟩
  go_wp2_with fail
  have t0 : (0 : Int) < (n : Int) + 7 := by omega
  have t1 : (1 : Int) < (n : Int) + 7 := by omega
  have t2 : (2 : Int) < (n : Int) + 7 := by omega
  have t3 : (3 : Int) < (n : Int) + 7 := by omega
  refine wp_region_still_lit (by kernel_rfl) (by kernel_rfl) ?_
  have d0 : V.drew.cell? ⟨rb, ro, none⟩ = some (.int .u8 (b0 : Nat)) := e0
  have d1 : V.drew.cell? ⟨rb, ro + 1, none⟩ = some (.int .u8 (b1 : Nat)) := e1
  have d2 : V.drew.cell? ⟨rb, ro + 2, none⟩ = some (.int .u8 (b2 : Nat)) := e2
  have d3 : V.drew.cell? ⟨rb, ro + 3, none⟩ = some (.int .u8 (b3 : Nat)) := e3
  have d4 : V.drew.cell? ⟨rb, ro + 4, none⟩ = some (.int .u8 (sq : Nat)) := e4
  have d5 : V.drew.cell? ⟨rb, ro + (n + 5), none⟩ = some (.int .u8 ((sumN (bodyO cr by_ co sq ds) / 256 : Nat) : Int)) := e5
  have d6 : V.drew.cell? ⟨rb, ro + (n + 6), none⟩ = some (.int .u8 ((sumN (bodyO cr by_ co sq ds) % 256 : Nat) : Int)) := e6
  have Ad : V.drew.heap[w.heap.size]? = _ := A
  have Bd := BA.drew
  have hrd := hrV.below ((Below.refl _ V).drew)
  clear e0 e1 e2 e3 e4 e5 e6 A BA hrV hr hrl
  obtain ⟨Vd, hVd⟩ : ∃ Vd : World, Vd = { V with drawn := V.drawn + 1 } := ⟨_, rfl⟩
  rw [← hVd]
  have eW : V.drew = Vd := hVd.symm
  rw [eW] at d0 d1 d2 d3 d4 d5 d6 Ad Bd hrd
  clear hVd eW
  repeat still_step
  refine wpStill_nil ?_
  change Exit.then _ _ Exit.normal _ Vd
  clear t0 t1 t2 t3 d0 d1 d2 d3
  rw [show ((n + 6 : Nat) : Int) = (n : Int) + 6 by omega] at p2 p3
  have y1 : bits .or .i64 (IntKind.i64.wrap (IntKind.i64.wrap (b0 : Int) * 256)) (IntKind.i64.wrap (b1 : Int)) = (firstO cr by_ co : Int) := by
    rw [IntWalk.i64_in (b0 : Int) (by omega), IntWalk.i64_in (b1 : Int) (by omega), IntWalk.i64_in ((b0 : Int) * 256) (by omega)]; exact p1
  have y2 : bits .or .i64 (IntKind.i64.wrap (IntKind.i64.wrap (b2 : Int) * 256)) (IntKind.i64.wrap (b3 : Int)) = (n : Int) + 6 := by
    rw [IntWalk.i64_in (b2 : Int) (by omega), IntWalk.i64_in (b3 : Int) (by omega), IntWalk.i64_in ((b2 : Int) * 256) (by omega)]; exact p2
  rw [y1, y2]
  clear y1 y2 p1 p2
  have p5 : (n : Int) + 7 - 1 = (n : Int) + 6 := by omega
  go_wp2_with fail
  clear p5
  have hle := hrd.le
  have hmx := hrd.max
  unfold maxLen at hmx
  have hbody := hrd.take (n + 5) (by omega)
  rw [vb_take, show (encO cr by_ co sq ds).take (n + 5) = bodyO cr by_ co sq ds by rw [← hn]; exact encO_take _ _ _ _ _] at hbody
  have s1 : IntKind.i64.wrap ((n : Int) + 7 - 2) = (n : Int) + 5 := by rw [show (n : Int) + 7 - 2 = (n : Int) + 5 by omega]; exact IntWalk.i64_in _ (by omega)
  have s6 : IntKind.i64.wrap ((n : Int) + 7 - 1) = (n : Int) + 6 := by rw [show (n : Int) + 7 - 1 = (n : Int) + 6 by omega]; exact IntWalk.i64_in _ (by omega)
  have s2 : (0 : Int) ≤ (n : Int) + 5 := by omega
  have s3 : (n : Int) + 5 ≤ (c : Int) := by omega
  have s4 : ((n : Int) + 5).toNat = n + 5 := by omega
  have s5 : (n : Int) + 5 < (n : Int) + 7 := by omega
  have s7 : (0 : Int) ≤ (n : Int) + 6 := by omega
  have s8 : (n : Int) + 6 < (n : Int) + 7 := by omega
  have s9 : ((n : Int) + 6).toNat = n + 6 := by omega
  refine wp_region_still_lit (by kernel_rfl) (by kernel_rfl) ?_
  have d4 : Vd.drew.cell? ⟨rb, ro + 4, none⟩ = _ := d4
  have d5 : Vd.drew.cell? ⟨rb, ro + (n + 5), none⟩ = _ := d5
  have d6 : Vd.drew.cell? ⟨rb, ro + (n + 6), none⟩ = _ := d6
  have Ad : Vd.drew.heap[w.heap.size]? = _ := Ad
  have Bd := Bd.drew
  have hrd := hrd.below ((Below.refl _ Vd).drew)
  have hbody := hbody.below ((Below.refl _ Vd).drew)
  obtain ⟨Ve, hVe⟩ : ∃ Ve : World, Ve = { Vd with drawn := Vd.drawn + 1 } := ⟨_, rfl⟩
  rw [← hVe]
  have eW : Vd.drew = Ve := hVe.symm
  rw [eW] at d4 d5 d6 Ad Bd hrd hbody
  clear hVe eW
  obtain ⟨u0, hu0⟩ : ∃ u0, u0 = sumN (bodyO cr by_ co sq ds) / 256 := ⟨_, rfl⟩
  obtain ⟨u1, hu1⟩ : ∃ u1, u1 = sumN (bodyO cr by_ co sq ds) % 256 := ⟨_, rfl⟩
  rw [← hu0] at d5
  rw [← hu1] at d6
  have Hu0 := hid hu0
  have Hu1 := hid hu1
  clear hu0 hu1
  repeat still_step
  still_call (sum_st _ _ _ _ hall (by omega) _ hbody)
  repeat still_step
  refine wpStill_nil ?_
  change Exit.then _ _ Exit.normal _ Ve
  clear s1 s2 s3 s4 s5 s6 s7 s8 s9 d5 d6 hbody
  generalize sumN (bodyO cr by_ co sq ds) = sm at *
  have hu0 := Hu0.out
  have hu1 := Hu1.out
  have z1 : bits .or .i64 (IntKind.i64.wrap (IntKind.i64.wrap (u0 : Int) * 256)) (IntKind.i64.wrap (u1 : Int)) = (sm : Int) := by
    rw [IntWalk.i64_in (u0 : Int) (by omega), IntWalk.i64_in (u1 : Int) (by omega), IntWalk.i64_in ((u0 : Int) * 256) (by omega)]
    exact or_word _ _ _ (by omega) (by omega) (by omega)
  clear hu0 hu1
  rw [z1]
  clear z1
  go_wp2_with fail
  obtain ⟨f1, f2, f3, f4⟩ := first_bits cr (by omega) by_ co
  have q1 : bits .and .i64 (firstO cr by_ co : Int) 1023 = (cr : Int) := (i64_and_nat _ 1023 (by omega) (by decide)).trans (congrArg (fun (x : Nat) => (x : Int)) f1)
  have q2 : bits .and .i64 (firstO cr by_ co : Int) 8192 = ((firstO cr by_ co &&& 8192 : Nat) : Int) := i64_and_nat _ 8192 (by omega) (by decide)
  have q3 : bits .and .i64 (firstO cr by_ co : Int) 4096 = ((firstO cr by_ co &&& 4096 : Nat) : Int) := i64_and_nat _ 4096 (by omega) (by decide)
  have q4 : bits .and .i64 (firstO cr by_ co : Int) 52224 = 0 := (i64_and_nat _ 52224 (by omega) (by decide)).trans (congrArg (fun (x : Nat) => (x : Int)) f4)
  have q2' := (cast_ne _).trans f2
  have q3' := (cast_ne _).trans f3
  clear f1 f2 f3 f4
  generalize firstO cr by_ co &&& 8192 = x8 at *
  generalize firstO cr by_ co &&& 4096 = x4 at *
  generalize hFF : firstO cr by_ co = F at *
  clear hFF hF
  have r1 : ((n : Int) + 6) / 1024 = 0 := by omega
  have hmid := hrd
  have s1 : IntKind.i64.wrap ((n : Int) + 7 - 2) = (n : Int) + 5 := by rw [show (n : Int) + 7 - 2 = (n : Int) + 5 by omega]; exact IntWalk.i64_in _ (by omega)
  have s6 : max ((n : Int) + 5) 0 = (n : Int) + 5 := by omega
  have s7 : ¬ (c = 5) := by omega
  have s8 : (0 : Int) ≤ (n : Int) + 5 := by omega
  have s2 : (n : Int) + 5 ≤ (c : Int) := by omega
  have s3 : (5 : Int) ≤ (n : Int) + 5 := by omega
  have s4 : ((n : Int) + 5).toNat = n + 5 := by omega
  have t4 : (4 : Int) < (n : Int) + 7 := by omega
  obtain ⟨B0, hB0⟩ : ∃ B0, B0 = Ve.heap.size := ⟨_, rfl⟩
  refine wp_region_plan [16, 18, 19] (Plan.of [0, 1, 2, 3, 4, 5, 6, 7, 8, 9, 10, 11, 12, 13, 14, 15] (.two 16 (Plan.of [17, 18, 19] .nil) 18 (Plan.of [16, 17, 19] .nil))) (Below B0) (fun _ => Below.refl _ _) (fun _ _ _ h k => h.trans k) (by kernel_rfl) (by kernel_rfl) ?_
  simp only [Plan.of, Plan.lay, List.contains_cons, List.contains_nil, List.getD_cons_zero, List.getD_cons_succ, Nat.reduceBEq, Bool.or_false, Bool.or_true]
  have d4 : Ve.drew.cell? ⟨rb, ro + 4, none⟩ = _ := d4
  have Ad : Ve.drew.heap[w.heap.size]? = _ := Ad
  have Bd := Bd.drew
  have hrd := hrd.below ((Below.refl _ Ve).drew)
  have hB0' : B0 = Ve.drew.heap.size := hB0
  clear hB0 d5 d6
  generalize Ve.drew = Ve at *
  have d4' : ∀ w', Below B0 Ve w' → w'.cell? ⟨rb, ro + 4, none⟩ = some (.int .u8 (sq : Nat)) := fun w' hw => (hw.cell (p := ⟨rb, ro + 4, none⟩) (by rw [hB0']; exact World.block_lt_of_cell? Ve _ d4)).trans d4
  have HB := hid hB0'
  clear hB0'
  repeat (refine wpTL_do rfl (fun w' hw' => (by go_simp; rfl)) ?_; simp only [Act.put, List.setIfInBounds_toArray, List.set_cons_succ, List.set_cons_zero])
  have hdat : Rd Ve (some ⟨rb, ro + 5, none⟩) n (c - 5) (vb ds) := by
    have h := encO_mid cr by_ co sq ds
    have hl := hrd.len
    refine ⟨by rw [vb_len]; exact hn, by omega, by unfold maxLen; omega, (fun h => by cases h), fun _ => ⟨rb, ro + 5, rfl, ?_, fun j hj => ?_⟩⟩
    · obtain ⟨b', o', hb', hlt, _⟩ := hrd.cell 0 (by omega)
      cases hb'; exact hlt
    · obtain ⟨b', o', hb', _, hc⟩ := hrd.cell (5 + j) (by omega)
      cases hb'
      rw [Nat.add_assoc, hc, vb_get _ _ (by omega)]
      have e1 : nth (encO cr by_ co sq ds) (5 + j) = nth ds j := by
        have h2 : nth (((encO cr by_ co sq ds).drop 5).take ds.length) j = nth ds j := by rw [h]
        rw [nth_take, if_pos (by omega)] at h2
        simpa [nth, List.getD_eq_getElem?_getD] using h2
      rw [e1]
  have hHlt : w.heap.size < Ve.heap.size := (Array.getElem?_eq_some_iff.1 Ad).1
  clear hrd d4 d4'
  refine wpTL_two ?_ ?_
  · refine wpTL_call rfl (fun K hK => ?_)
    go_wp2_with fail
    refine (clone_any (some ⟨rb, ro + 5, none⟩) n (c - 5) ds _ hdat (by omega)).mono ?_
    rintro e Vc ⟨ao, cc, rfl, oo, Bc⟩
    refine hK _ _ (by rw [HB.out]; exact Bc) ?_
    clear hK K
    try simp only [Act.put, List.setIfInBounds_toArray, List.set_cons_succ, List.set_cons_zero]
    repeat (refine wpTL_do rfl (fun w' hw' => (by go_simp; rfl)) ?_; simp only [Act.put, List.setIfInBounds_toArray, List.set_cons_succ, List.set_cons_zero])
    refine wpTL_call rfl (fun K hK => ?_)
    go_wp2_with fail
    refine hK _ _ ((below_alloc _ _).mono (by rw [HB.out]; exact Bc.size)) ?_
    clear hK K
    try simp only [Act.put, List.setIfInBounds_toArray, List.set_cons_succ, List.set_cons_zero]
    refine wpTL_call rfl (fun K hK => ?_)
    go_wp2_with fail
    refine hK _ _ (below_alloc2 _ _ _ (by rw [HB.out]; exact Bc.size)) ?_
    clear hK K
    try simp only [Act.put, List.setIfInBounds_toArray, List.set_cons_succ, List.set_cons_zero]
    have A7 := heap_alloc_new Vc (.cells #[.int .i64 (cr : Int), .bool by_, .bool co, .int .i64 (sq : Int), .slice ao n cc] 33)
    have bf := below_alloc Vc (.cells #[.int .i64 (cr : Int), .bool by_, .bool co, .int .i64 (sq : Int), .slice ao n cc] 33)
    have Af := row_below (row_below Ad Bc) bf
    have hdr := (Rd.ofOwn oo).below bf
    have Bf := (Bd.trans (Bc.mono Bd.size)).trans (bf.mono (Nat.le_trans Bd.size Bc.size))
    have hne : Vc.heap.size ≠ w.heap.size := by have := Bc.size; omega
    have hdn : ∀ b off, 0 < n → ao = some ⟨b, off, none⟩ → some b ≠ some w.heap.size := fun b off h0 h => by
      obtain ⟨_, _, hv, _, _, hh⟩ := own_form oo
      cases hv
      rcases hh with ⟨h', _⟩ | ⟨g', h', h2, _⟩
      · rw [h'] at h; cases h
      · rw [h'] at h; cases h; intro he; cases he; omega
    have hfar : Hid (∀ b off, 0 < n → ao = some ⟨b, off, none⟩ → w.heap.size ≤ b) := fun b off h0 h => by
      obtain ⟨_, _, hv, _, _, hh⟩ := own_form oo
      have hs := Bd.size
      cases hv
      rcases hh with ⟨h', _⟩ | ⟨g', h', h2, _⟩
      · rw [h'] at h; cases h
      · rw [h'] at h; cases h; omega
    have hfr : ∀ i, (Vc.alloc (.cells #[.int .i64 (cr : Int), .bool by_, .bool co, .int .i64 (sq : Int), .slice ao n cc] 33)).frozen? ⟨w.heap.size, i, none⟩ = false := frozen_row Af
    generalize Vc.heap.size = bx at *
    generalize Vc.alloc (.cells #[.int .i64 (cr : Int), .bool by_, .bool co, .int .i64 (sq : Int), .slice ao n cc] 33) = Vf at *
    refine wpTL_nil ?_
    obtain ⟨z0, z1, z2, z3, z4⟩ := oAt_row Af
    have fz := frozen_row Af
    obtain ⟨m0, m1, m2, m3, m4⟩ := oAt_row A7
    cases co with
    | false =>
      go_wp2_with fail
      obtain ⟨A5, g5⟩ := five Af (.int .i64 (cr : Int)) (.bool by_) (.bool false) (.int .i64 (sq : Int)) (.slice ao n cc)
      have hdr := hdr.grown g5 hdn
      have Bf := Bf.grown g5 Bf.size (fun k e => by cases e; exact Nat.le_refl _)
      generalize ((((Vf.setCell ⟨w.heap.size, 0, none⟩ (.int .i64 (cr : Int))).setCell ⟨w.heap.size, 1, none⟩ (.bool by_)).setCell ⟨w.heap.size, 2, none⟩ (.bool false)).setCell ⟨w.heap.size, 3, none⟩ (.int .i64 (sq : Int))).setCell ⟨w.heap.size, 4, none⟩ (.slice ao n cc) = V9 at *
      obtain ⟨y0, y1, y2, y3, y4⟩ := oAt_row A5
      refine bodyPost_ret (by simp only [results, Try.results9, go_sem]; simp [go_sem, y0, y1, y2, y3, y4]; rfl) rfl ?_
      exact ⟨ao, cc, rfl, hdr, Bf, hfar.out⟩
    | true =>
      obtain rfl : by_ = true := h3 rfl
      go_wp2_with fail
      obtain ⟨A5, g5⟩ := five Af (.int .i64 (cr : Int)) (.bool true) (.bool true) (.int .i64 (sq : Int)) (.slice ao n cc)
      have hdr := hdr.grown g5 hdn
      have Bf := Bf.grown g5 Bf.size (fun k e => by cases e; exact Nat.le_refl _)
      generalize ((((Vf.setCell ⟨w.heap.size, 0, none⟩ (.int .i64 (cr : Int))).setCell ⟨w.heap.size, 1, none⟩ (.bool true)).setCell ⟨w.heap.size, 2, none⟩ (.bool true)).setCell ⟨w.heap.size, 3, none⟩ (.int .i64 (sq : Int))).setCell ⟨w.heap.size, 4, none⟩ (.slice ao n cc) = V9 at *
      obtain ⟨y0, y1, y2, y3, y4⟩ := oAt_row A5
      refine bodyPost_ret (by simp only [results, Try.results9, go_sem]; simp [go_sem, y0, y1, y2, y3, y4]; rfl) rfl ?_
      exact ⟨ao, cc, rfl, hdr, Bf, hfar.out⟩
  · refine wpTL_call rfl (fun K hK => ?_)
    go_wp2_with fail
    have bz := below_alloc Ve (.cells #[.int .i64 0, .bool false, .bool false, .int .i64 0, .slice none 0 0] 33)
    have Az := heap_alloc_new Ve (.cells #[.int .i64 0, .bool false, .bool false, .int .i64 0, .slice none 0 0] 33)
    refine hK _ _ (by rw [HB.out]; exact bz) ?_
    clear hK K
    try simp only [Act.put, List.setIfInBounds_toArray, List.set_cons_succ, List.set_cons_zero]
    refine wpTL_call rfl (fun K hK => ?_)
    go_wp2_with fail
    refine (clone_any (some ⟨rb, ro + 5, none⟩) n (c - 5) ds _ (hdat.below bz) (by omega)).mono ?_
    rintro e Vc ⟨ao, cc, rfl, oo, Bc⟩
    refine hK _ _ (Bc.mono (by rw [HB.out]; exact bz.size)) ?_
    clear hK K
    try simp only [Act.put, List.setIfInBounds_toArray, List.set_cons_succ, List.set_cons_zero]
    have Az := row_below Az Bc
    have Af := row_below (row_below Ad bz) Bc
    have hne : Ve.heap.size ≠ w.heap.size := by omega
    have hrc := Rd.ofOwn oo
    have hge : ∀ b off, 0 < n → ao = some ⟨b, off, none⟩ → Ve.heap.size < b := fun b off h0 h => by
      obtain ⟨_, _, hv, _, _, hh⟩ := own_form oo
      cases hv
      rcases hh with ⟨h', _⟩ | ⟨g', h', h2, _⟩
      · rw [h'] at h; cases h
      · rw [h'] at h; cases h; simp at h2; omega
    have hfar : Hid (∀ b off, 0 < n → ao = some ⟨b, off, none⟩ → w.heap.size ≤ b) := fun b off h0 h => by have := hge b off h0 h; omega
    have Bf := (Bd.trans (bz.mono Bd.size)).trans (Bc.mono (Nat.le_trans Bd.size bz.size))
    clear oo Bc bz hdat
    have hfr := frozen_row Az
    obtain ⟨x0, x1, x2, x3, x4⟩ := oAt_row Az
    repeat (refine wpTL_do rfl (fun w' hw' => (by go_simp; rfl)) ?_; simp only [Act.put, List.setIfInBounds_toArray, List.set_cons_succ, List.set_cons_zero])
    refine wpTL_call rfl (fun K hK => ?_)
    go_wp2_with fail
    obtain ⟨A7, g7⟩ := five Az (.int .i64 (cr : Int)) (.bool by_) (.bool co) (.int .i64 (sq : Int)) (.slice ao n cc)
    have hle2 : Ve.heap.size ≤ Vc.heap.size := Nat.le_of_lt (Array.getElem?_eq_some_iff.1 Az).1
    refine hK _ _ ((Below.refl B0 Vc).grown g7 (by rw [HB.out]; exact hle2) (fun k e => by cases e; rw [HB.out]; exact Nat.le_refl _)) ?_
    clear hK K
    try simp only [Act.put, List.setIfInBounds_toArray, List.set_cons_succ, List.set_cons_zero]
    have Af := row_grown Af g7 (by omega)
    have hdr := hrc.grown g7 (fun b off h0 h => by have := hge b off h0 h; intro he; cases he; omega)
    have hdn : ∀ b off, 0 < n → ao = some ⟨b, off, none⟩ → some b ≠ some w.heap.size := fun b off h0 h => by have := hge b off h0 h; intro he; cases he; omega
    have Bf := Bf.grown g7 Bf.size (fun k e => by cases e; omega)
    clear Az g7 hrc hge hfr x0 x1 x2 x3 x4 hle2
    generalize ((((Vc.setCell ⟨Ve.heap.size, 0, none⟩ (.int .i64 (cr : Int))).setCell ⟨Ve.heap.size, 1, none⟩ (.bool by_)).setCell ⟨Ve.heap.size, 2, none⟩ (.bool co)).setCell ⟨Ve.heap.size, 3, none⟩ (.int .i64 (sq : Int))).setCell ⟨Ve.heap.size, 4, none⟩ (.slice ao n cc) = Vf at *
    generalize Ve.heap.size = bx at *
    refine wpTL_nil ?_
    obtain ⟨z0, z1, z2, z3, z4⟩ := oAt_row Af
    have fz := frozen_row Af
    obtain ⟨m0, m1, m2, m3, m4⟩ := oAt_row A7
    cases co with
    | false =>
      go_wp2_with fail
      obtain ⟨A5, g5⟩ := five Af (.int .i64 (cr : Int)) (.bool by_) (.bool false) (.int .i64 (sq : Int)) (.slice ao n cc)
      have hdr := hdr.grown g5 hdn
      have Bf := Bf.grown g5 Bf.size (fun k e => by cases e; exact Nat.le_refl _)
      generalize ((((Vf.setCell ⟨w.heap.size, 0, none⟩ (.int .i64 (cr : Int))).setCell ⟨w.heap.size, 1, none⟩ (.bool by_)).setCell ⟨w.heap.size, 2, none⟩ (.bool false)).setCell ⟨w.heap.size, 3, none⟩ (.int .i64 (sq : Int))).setCell ⟨w.heap.size, 4, none⟩ (.slice ao n cc) = V9 at *
      obtain ⟨y0, y1, y2, y3, y4⟩ := oAt_row A5
      refine bodyPost_ret (by simp only [results, Try.results9, go_sem]; simp [go_sem, y0, y1, y2, y3, y4]; rfl) rfl ?_
      exact ⟨ao, cc, rfl, hdr, Bf, hfar.out⟩
    | true =>
      obtain rfl : by_ = true := h3 rfl
      go_wp2_with fail
      obtain ⟨A5, g5⟩ := five Af (.int .i64 (cr : Int)) (.bool true) (.bool true) (.int .i64 (sq : Int)) (.slice ao n cc)
      have hdr := hdr.grown g5 hdn
      have Bf := Bf.grown g5 Bf.size (fun k e => by cases e; exact Nat.le_refl _)
      generalize ((((Vf.setCell ⟨w.heap.size, 0, none⟩ (.int .i64 (cr : Int))).setCell ⟨w.heap.size, 1, none⟩ (.bool true)).setCell ⟨w.heap.size, 2, none⟩ (.bool true)).setCell ⟨w.heap.size, 3, none⟩ (.int .i64 (sq : Int))).setCell ⟨w.heap.size, 4, none⟩ (.slice ao n cc) = V9 at *
      obtain ⟨y0, y1, y2, y3, y4⟩ := oAt_row A5
      refine bodyPost_ret (by simp only [results, Try.results9, go_sem]; simp [go_sem, y0, y1, y2, y3, y4]; rfl) rfl ?_
      exact ⟨ao, cc, rfl, hdr, Bf, hfar.out⟩
theorem decode_enc (cr : Nat) (by_ co : Bool) (sq : Nat) (ds : List Nat) (a : Option Addr) (n c : Nat) (w : World) (hn : ds.length = n) (hr : Rd w a (n + 7) c (vb (encO cr by_ co sq ds))) (hd : AllB ds) (h1 : cr ≤ 1023) (h2 : sq ≤ 255) (h3 : co = true → by_ = true) (h4 : 1 ≤ n) (h5 : n ≤ 1017) :
    Calls Try.prog 9 #[.slice a (n + 7) c] w fun e w' => ∃ ao cc, e = .returned (.tuple #[.agg (ocells cr by_ co sq ao n cc), .int .i64 0]) ∧ Rd w' ao n cc (vb ds) ∧ Below w.heap.size w w' :=
  (decode_far cr by_ co sq ds a n c w hn hr hd h1 h2 h3 h4 h5).mono fun e w' ⟨ao, cc, e1, e2, e3, _⟩ => ⟨ao, cc, e1, e2, e3⟩
end Go.Proofs.Ytkngoomkmbkenaa
/- A frame arrives: it is shown to the gate. -/
namespace Go.Proofs.Ytkngoomkmbkenaa
set_option linter.unusedVariables false
open Go.RowKit

set_option maxRecDepth 1000000 in
theorem fr68 (y : Nat → Value) : fr 68 y = #[y 0, y 1, y 2, y 3, y 4, y 5, y 6, y 7, y 8, y 9, y 10, y 11, y 12, y 13, y 14, y 15, y 16, y 17, y 18, y 19, y 20, y 21, y 22, y 23, y 24, y 25, y 26, y 27, y 28, y 29, y 30, y 31, y 32, y 33, y 34, y 35, y 36, y 37, y 38, y 39, y 40, y 41, y 42, y 43, y 44, y 45, y 46, y 47, y 48, y 49, y 50, y 51, y 52, y 53, y 54, y 55, y 56, y 57, y 58, y 59, y 60, y 61, y 62, y 63, y 64, y 65, y 66, y 67] := rfl
set_option maxRecDepth 1000000 in
set_option maxHeartbeats 1000000 in
theorem arr_4 (L B O i cc : Nat) (room : Bool) (ao : Option Addr) (s : LS) (hg : s.g.ok) (hcr : s.g.cr = 3) (hi : i ≤ 100) :
    Tri Try.prog 68 (pieceOf Try.f26 [1, 1, 1, 0]) (fun y w => y 0 = .pointer (some ⟨L, 0, none⟩) ∧ y 2 = .bool room ∧ y 7 = .pointer (some ⟨O, 0, none⟩) ∧ LM w L B s ∧ w.heap[O]? = some (.cells #[.int .i64 3, .bool false, .bool false, .int .i64 (i : Int), .slice ao 1 cc] 33))
      (fun y w y' w' => y' 0 = .pointer (some ⟨L, 0, none⟩) ∧ y' 7 = .pointer (some ⟨O, 0, none⟩) ∧ y' 6 = y 6 ∧ y' 10 = .bool (numG s.g i room).2.1 ∧ y' 11 = .int .i64 (numG s.g i room).2.2 ∧ Below w.heap.size w w' ∧ ∃ D, y' 9 = .pointer (some ⟨D, 0, none⟩) ∧ w'.heap[D]? = some (.cells (numG s.g i room).1.cells 25)) := by
  rintro Q y w ⟨s0, s2, s7, hM, hO⟩ hQ
  have HQ := hid hQ
  clear hQ
  have hacc : ∀ W, Calls Try.prog 7 #[.agg #[.int .i64 3, .int .i64 s.g.nx, .int .i64 s.g.hf, .bool s.g.sh, .bool s.g.wa, .bool s.g.ag, .int .i64 s.g.ct], .agg #[.int .i64 3, .bool false, .bool false, .int .i64 (i : Int), .slice ao 1 cc], .bool room] W fun e w' => e = .returned (.tuple #[.agg (numG s.g i room).1.cells, .bool (numG s.g i room).2.1, .int .i64 (numG s.g i room).2.2]) ∧ Below W.heap.size W w' := fun W => by
    have h := accept_num s.g hg (i : Int) (by omega) ao 1 cc (by decide) room W
    unfold ocells at h
    rw [hcr] at h
    unfold Gt.cells at h
    rw [hcr] at h
    exact h
  generalize hn : numG s.g (i : Int) room = num at *
  obtain ⟨G2, bo, er⟩ := num
  dsimp only at hacc HQ
  unfold Gt.cells at hacc HQ
  have HAcc := hid hacc
  clear hacc hn
  conv => arg 2; whnf
  rw [fr68]
  simp only [s0, s2, s7]
  clear s0 s2 s7
  refine wp_region_plan [6, 11, 12] (Plan.of [0, 1, 2, 3, 4, 5] (.two 6 (Plan.of [7, 8, 9, 10, 11, 12, 13, 14] .nil) 11 (Plan.of [6, 7, 8, 9, 10, 12, 13, 14] .nil))) (Below w.heap.size) (fun _ => Below.refl _ _) (fun _ _ _ h k => h.trans k) (by kernel_rfl) (by kernel_rfl) ?_
  simp only [Plan.of, Plan.lay, List.contains_cons, List.contains_nil, List.getD_cons_zero, List.getD_cons_succ, Nat.reduceBEq, Bool.or_false, Bool.or_true]
  have hk : ∀ w', Below w.heap.size w.drew w' → Below w.heap.size w w' := fun w' h => (Below.refl _ w).drew.trans h
  have l0 : ∀ w', Below w.heap.size w.drew w' → w'.cell? ⟨L, 12, none⟩ = some (.int .i64 3) := fun w' h => by rw [cell_of_row _ _ _ _ _ _ (row_below hM.bx (hk w' h)), ← hcr]; rfl
  have l1 : ∀ w', Below w.heap.size w.drew w' → w'.cell? ⟨L, 13, none⟩ = some (.int .i64 s.g.nx) := fun w' h => by rw [cell_of_row _ _ _ _ _ _ (row_below hM.bx (hk w' h))]; rfl
  have l2 : ∀ w', Below w.heap.size w.drew w' → w'.cell? ⟨L, 14, none⟩ = some (.int .i64 s.g.hf) := fun w' h => by rw [cell_of_row _ _ _ _ _ _ (row_below hM.bx (hk w' h))]; rfl
  have l3 : ∀ w', Below w.heap.size w.drew w' → w'.cell? ⟨L, 15, none⟩ = some (.bool s.g.sh) := fun w' h => by rw [cell_of_row _ _ _ _ _ _ (row_below hM.bx (hk w' h))]; rfl
  have l4 : ∀ w', Below w.heap.size w.drew w' → w'.cell? ⟨L, 16, none⟩ = some (.bool s.g.wa) := fun w' h => by rw [cell_of_row _ _ _ _ _ _ (row_below hM.bx (hk w' h))]; rfl
  have l5 : ∀ w', Below w.heap.size w.drew w' → w'.cell? ⟨L, 17, none⟩ = some (.bool s.g.ag) := fun w' h => by rw [cell_of_row _ _ _ _ _ _ (row_below hM.bx (hk w' h))]; rfl
  have l6 : ∀ w', Below w.heap.size w.drew w' → w'.cell? ⟨L, 18, none⟩ = some (.int .i64 s.g.ct) := fun w' h => by rw [cell_of_row _ _ _ _ _ _ (row_below hM.bx (hk w' h))]; rfl
  have o0 : ∀ w', Below w.heap.size w.drew w' → w'.cell? ⟨O, 0, none⟩ = some (.int .i64 3) := fun w' h => by rw [cell_of_row _ _ _ _ _ _ (row_below hO (hk w' h))]; rfl
  have o1 : ∀ w', Below w.heap.size w.drew w' → w'.cell? ⟨O, 1, none⟩ = some (.bool false) := fun w' h => by rw [cell_of_row _ _ _ _ _ _ (row_below hO (hk w' h))]; rfl
  have o2 : ∀ w', Below w.heap.size w.drew w' → w'.cell? ⟨O, 2, none⟩ = some (.bool false) := fun w' h => by rw [cell_of_row _ _ _ _ _ _ (row_below hO (hk w' h))]; rfl
  have o3 : ∀ w', Below w.heap.size w.drew w' → w'.cell? ⟨O, 3, none⟩ = some (.int .i64 (i : Int)) := fun w' h => by rw [cell_of_row _ _ _ _ _ _ (row_below hO (hk w' h))]; rfl
  have o4 : ∀ w', Below w.heap.size w.drew w' → w'.cell? ⟨O, 4, none⟩ = some (.slice ao 1 cc) := fun w' h => by rw [cell_of_row _ _ _ _ _ _ (row_below hO (hk w' h))]; rfl
  have Hk := hid hk
  have hd1 : Hid (w.drew.heap.size = w.heap.size) := rfl
  clear hM hO hk hg hcr hi
  generalize hBB : w.heap.size = B0 at *
  clear hBB
  generalize w.drew = U at *
  iterate 6 (refine wpTL_do rfl (fun w' hw' => (by go_simp; rfl)) ?_; simp only [Act.put, List.setIfInBounds_toArray, List.set_cons_succ, List.set_cons_zero])
  clear l0 l1 l2 l3 l4 l5 l6 o0 o1 o2 o3 o4
  refine wpTL_two ?_ ?_
  · refine wpTL_call rfl (fun K hK => ?_)
    go_wp2_with fail
    refine (HAcc.out U).mono ?_
    rintro e W1 ⟨rfl, b1⟩
    have hb1 := b1.mono (Nat.le_of_eq hd1.out.symm)
    have Hb1 := hid hb1
    have hsz := b1.size
    refine hK _ _ hb1 ?_
    clear hK K b1 hb1
    try simp only [Act.put, List.setIfInBounds_toArray, List.set_cons_succ, List.set_cons_zero]
    iterate 4 (refine wpTL_do rfl (fun w' hw' => (by go_simp; rfl)) ?_; simp only [Act.put, List.setIfInBounds_toArray, List.set_cons_succ, List.set_cons_zero])
    have hB1 : B0 ≤ W1.heap.size := by have := hd1.out; omega
    refine wpTL_call rfl (fun K hK => ?_)
    go_wp2_with fail
    refine hK _ _ ((below_alloc W1 _).mono hB1) ?_
    clear hK K
    try simp only [Act.put, List.setIfInBounds_toArray, List.set_cons_succ, List.set_cons_zero]
    have r0 := heap_alloc_new W1 (.cells #[.int .i64 0, .int .i64 0, .int .i64 0, .bool false, .bool false, .bool false, .int .i64 0] 25)
    have b2 := (below_alloc W1 (.cells #[.int .i64 0, .int .i64 0, .int .i64 0, .bool false, .bool false, .bool false, .int .i64 0] 25)).mono hB1
    obtain ⟨D, hD⟩ : ∃ D, D = W1.heap.size := ⟨_, rfl⟩
    rw [← hD] at r0 ⊢
    have hBD : B0 ≤ D := by omega
    clear hD
    generalize W1.alloc (.cells #[.int .i64 0, .int .i64 0, .int .i64 0, .bool false, .bool false, .bool false, .int .i64 0] 25) = W2 at *
    obtain ⟨_, c0, c1, c2, c3, c4, c5, c6⟩ := gtAt_row (g := ⟨0, 0, 0, false, false, false, 0⟩) r0
    have fz := frozen_row r0
    have A5 := hid (seven r0 (.int .i64 G2.cr) (.int .i64 G2.nx) (.int .i64 G2.hf) (.bool G2.sh) (.bool G2.wa) (.bool G2.ag) (.int .i64 G2.ct))
    have g5 := hid (grown7 W2 D (.int .i64 G2.cr) (.int .i64 G2.nx) (.int .i64 G2.hf) (.bool G2.sh) (.bool G2.wa) (.bool G2.ag) (.int .i64 G2.ct))
    have hB2 : B0 ≤ W2.heap.size := Nat.le_trans hBD (Nat.le_of_lt (row_lt r0))
    have b5 := (Below.refl B0 W2).grown g5.out hB2 (fun k e => by cases e; exact hBD)
    have HEnd := hid ((Hk.out U (Below.refl _ _)).trans (Hb1.out.trans (b2.trans b5)))
    have Hb5 := hid b5
    clear r0 b2 b5 Hb1
    refine wpTL_call rfl (fun K hK => ?_)
    go_wp2_with fail
    refine hK _ _ Hb5.out ?_
    clear hK K c0 c1 c2 c3 c4 c5 c6 fz
    try simp only [Act.put, List.setIfInBounds_toArray, List.set_cons_succ, List.set_cons_zero]
    generalize ((((((W2.setCell ⟨D, 0, none⟩ (.int .i64 G2.cr)).setCell ⟨D, 1, none⟩ (.int .i64 G2.nx)).setCell ⟨D, 2, none⟩ (.int .i64 G2.hf)).setCell ⟨D, 3, none⟩ (.bool G2.sh)).setCell ⟨D, 4, none⟩ (.bool G2.wa)).setCell ⟨D, 5, none⟩ (.bool G2.ag)).setCell ⟨D, 6, none⟩ (.int .i64 G2.ct) = W3 at *
    iterate 2 (refine wpTL_do rfl (fun w' hw' => (by go_simp; rfl)) ?_; simp only [Act.put, List.setIfInBounds_toArray, List.set_cons_succ, List.set_cons_zero])
    refine wpTL_nil ?_
    exact q_fr (N := 68) HQ.out rfl ⟨rfl, rfl, rfl, rfl, rfl, HEnd.out, D, rfl, A5.out⟩
  · refine wpTL_call rfl (fun K hK => ?_)
    go_wp2_with fail
    have r0 := heap_alloc_new U (.cells #[.int .i64 0, .int .i64 0, .int .i64 0, .bool false, .bool false, .bool false, .int .i64 0] 25)
    have b2 := (below_alloc U (.cells #[.int .i64 0, .int .i64 0, .int .i64 0, .bool false, .bool false, .bool false, .int .i64 0] 25)).mono (Nat.le_of_eq hd1.out.symm)
    refine hK _ _ b2 ?_
    clear hK K
    try simp only [Act.put, List.setIfInBounds_toArray, List.set_cons_succ, List.set_cons_zero]
    obtain ⟨D, hD⟩ : ∃ D, D = U.heap.size := ⟨_, rfl⟩
    rw [← hD] at r0 ⊢
    have hBD : B0 ≤ D := by have := hd1.out; omega
    clear hD
    have HbU := hid ((Hk.out U (Below.refl _ _)).trans b2)
    generalize U.alloc (.cells #[.int .i64 0, .int .i64 0, .int .i64 0, .bool false, .bool false, .bool false, .int .i64 0] 25) = W1 at *
    have hB1 : B0 ≤ W1.heap.size := Nat.le_trans hBD (Nat.le_of_lt (row_lt r0))
    have R0 := hid r0
    clear r0 b2
    refine wpTL_call rfl (fun K hK => ?_)
    go_wp2_with fail
    refine (HAcc.out W1).mono ?_
    rintro e W2 ⟨rfl, b1⟩
    have hb1 := b1.mono hB1
    have r0 := row_below R0.out b1
    have HbU2 := hid (HbU.out.trans hb1)
    refine hK _ _ hb1 ?_
    clear hK K b1 hb1 R0 HbU
    try simp only [Act.put, List.setIfInBounds_toArray, List.set_cons_succ, List.set_cons_zero]
    iterate 4 (refine wpTL_do rfl (fun w' hw' => (by go_simp; rfl)) ?_; simp only [Act.put, List.setIfInBounds_toArray, List.set_cons_succ, List.set_cons_zero])
    obtain ⟨_, c0, c1, c2, c3, c4, c5, c6⟩ := gtAt_row (g := ⟨0, 0, 0, false, false, false, 0⟩) r0
    have fz := frozen_row r0
    have A5 := hid (seven r0 (.int .i64 G2.cr) (.int .i64 G2.nx) (.int .i64 G2.hf) (.bool G2.sh) (.bool G2.wa) (.bool G2.ag) (.int .i64 G2.ct))
    have g5 := hid (grown7 W2 D (.int .i64 G2.cr) (.int .i64 G2.nx) (.int .i64 G2.hf) (.bool G2.sh) (.bool G2.wa) (.bool G2.ag) (.int .i64 G2.ct))
    have hB2 : B0 ≤ W2.heap.size := Nat.le_trans hBD (Nat.le_of_lt (row_lt r0))
    have b5 := (Below.refl B0 W2).grown g5.out hB2 (fun k e => by cases e; exact hBD)
    have HEnd := hid (HbU2.out.trans b5)
    have Hb5 := hid b5
    clear r0 b5 HbU2
    refine wpTL_call rfl (fun K hK => ?_)
    go_wp2_with fail
    refine hK _ _ Hb5.out ?_
    clear hK K c0 c1 c2 c3 c4 c5 c6 fz
    try simp only [Act.put, List.setIfInBounds_toArray, List.set_cons_succ, List.set_cons_zero]
    generalize ((((((W2.setCell ⟨D, 0, none⟩ (.int .i64 G2.cr)).setCell ⟨D, 1, none⟩ (.int .i64 G2.nx)).setCell ⟨D, 2, none⟩ (.int .i64 G2.hf)).setCell ⟨D, 3, none⟩ (.bool G2.sh)).setCell ⟨D, 4, none⟩ (.bool G2.wa)).setCell ⟨D, 5, none⟩ (.bool G2.ag)).setCell ⟨D, 6, none⟩ (.int .i64 G2.ct) = W3 at *
    iterate 2 (refine wpTL_do rfl (fun w' hw' => (by go_simp; rfl)) ?_; simp only [Act.put, List.setIfInBounds_toArray, List.set_cons_succ, List.set_cons_zero])
    refine wpTL_nil ?_
    exact q_fr (N := 68) HQ.out rfl ⟨rfl, rfl, rfl, rfl, rfl, HEnd.out, D, rfl, A5.out⟩
end Go.Proofs.Ytkngoomkmbkenaa
