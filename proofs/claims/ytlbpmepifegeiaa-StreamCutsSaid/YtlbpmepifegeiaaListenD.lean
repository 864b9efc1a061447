/- Stream: a round of Listen, put together. -/
import Derived.Test.YtlbpmepifegeiaaListenC
namespace Go.Proofs.Ytlbpmepifegeiaa
set_option linter.unusedVariables false
set_option linter.unusedSimpArgs false
open Go.RowKit

theorem own_block {W : World} {base e s n j : Nat} {v : Value} {xs : List Value} (h : W.ownsRow base e s v n xs) (hj : v.ownBlock = some j) : ∃ cs, W.heap[j]? = some (.cells cs e) := by
  rcases h.2 with ⟨rfl, _⟩ | ⟨g, cap, cur, rfl, _, hg, _⟩
  · cases hj
  · cases hj; exact ⟨_, hg⟩
/-- blocks of headers and of marks 'locked' alone may be turned -/
def OnlyT (W : World) (S : Nat → Prop) : Prop := ∀ j, S j → ∃ cs T, W.heap[j]? = some (.cells cs T) ∧ (T = 33 ∨ T = 4)
theorem OnlyT.own {W W' : World} {S : Nat → Prop} (hS : OnlyT W S) (hk : KeptP S W W') {base e s n : Nat} {v : Value} {xs : List Value} (h : W.ownsRow base e s v n xs) (h1 : e ≠ 33) (h2 : e ≠ 4) : W'.ownsRow base e s v n xs :=
  hk.own h (fun k he hs => by
    obtain ⟨cs, T, hc, hT⟩ := hS k hs
    obtain ⟨cs', hc'⟩ := own_block h he
    rw [hc] at hc'
    cases hc'
    rcases hT with rfl | rfl
    · exact h1 rfl
    · exact h2 rfl)
theorem OnlyT.row {W W' : World} {S : Nat → Prop} (hS : OnlyT W S) (hk : KeptP S W W') {b T : Nat} {cs : Array Value} (h : W.heap[b]? = some (.cells cs T)) (h1 : T ≠ 33) (h2 : T ≠ 4) : W'.heap[b]? = some (.cells cs T) :=
  hk.row h (fun hs => by
    obtain ⟨cs', T', hc, hT⟩ := hS b hs
    rw [hc] at h
    cases h
    rcases hT with rfl | rfl
    · exact h1 rfl
    · exact h2 rfl)
theorem OnlyT.hdr {W W' : World} {S Bad : Nat → Prop} (hS : OnlyT W S) (hk : KeptP S W W') {B0 : Nat} {h : Hd} {F : List Fd} (x : HdrAt W B0 Bad h F) : HdrAt W' B0 Bad h F :=
  ⟨hS.own hk x.row (by decide) (by decide), x.len, fun f hf => ⟨hS.own hk (x.ins f hf).1 (by decide) (by decide), (x.ins f hf).2⟩, x.off, x.offs⟩
theorem OnlyT.sy {W W' : World} {S : Nat → Prop} (hS : OnlyT W S) (hk : KeptP S W W') {sb : Nat} {s : SyV} {C : List Nat} (h : SyIn W sb s C) : SyIn W' sb s C :=
  { h with at_ := hS.row hk (show W.heap[sb]? = some (.cells _ 56) from h.at_) (by decide) (by decide), own := hS.own hk h.own (by decide) (by decide) }

/-- what lies there when the three lists are to grow -/
structure LisM (r : Rl) (sb : Nat) (w W : World) (pss : List (List Nat)) (aa : Option Addr) (k ac : Nat) (qa : Option Addr) (qc : Nat) (la : Option Addr) (lc : Nat) (ds : List Deferred)
    (ha hq : List Hd) (FA FQ : List (List Fd)) (los : List Bool) (s : SyV) (C : List Nat) (h1 h2 : Hd) (F1 F2 : List Fd) : Prop where
  colA : ColAt W w.heap.size (SyB s sb) aa k ac ha FA
  colQ : ColAt W w.heap.size (SyB s sb) qa k qc hq FQ
  apart : ∀ j, (Value.slice aa k ac).ownBlock = some j → (Value.slice qa k qc).ownBlock ≠ some j
  same : (FA ++ [F1]).map (·.map Fd.fo) = (FQ ++ [F2]).map (·.map Fd.fo)
  lo : W.ownsRow w.heap.size 4 1 (.slice la k lc) k (los.map Value.bool)
  sy : SyIn W sb s C
  rl : rl s = r
  fn : s.fa = none ∧ s.fn = 0 ∧ s.fc = 0
  lis : Lis r [] (core (SyV.new r.L r.F r.H r.M)) (pss.take (k + 1)) ((FA ++ [F1]).map (·.map Fd.fo)) (los ++ [s.lo]) C (core s)
  inv : MInv r C s.base 0 (core s)
  bw : ∀ j, (Value.slice s.ba s.bn s.bc).ownBlock = some j → w.heap.size ≤ j
  sbw : w.heap.size ≤ sb
  blw : Below w.heap.size w W
  marks : Marks w.heap.size ds W
  hd1 : HdrAt W w.heap.size (SyB s sb) h1 F1
  hd2 : HdrAt W w.heap.size (SyB s sb) h2 F2

theorem syB_row {W : World} {sb : Nat} {s : SyV} {C : List Nat} (h : SyIn W sb s C) {base e sz n j : Nat} {v : Value} {xs : List Value} (ho : W.ownsRow base e sz v n xs) (h1 : e ≠ 56) (h2 : e ≠ 5) (hj : v.ownBlock = some j) : ¬ SyB s sb j := by
  intro hb
  obtain ⟨cs, hc⟩ := own_block ho hj
  rcases hb with rfl | hb
  · rw [show W.heap[j]? = _ from h.at_] at hc; cases hc; exact h1 rfl
  · obtain ⟨cs', hc'⟩ := own_block h.own hb
    rw [hc] at hc'; cases hc'; exact h2 rfl

/-- a round is over -/
theorem LisM.next {r : Rl} {sb : Nat} {w W W' : World} {pss : List (List Nat)} {aa : Option Addr} {k ac : Nat} {qa : Option Addr} {qc : Nat} {la : Option Addr} {lc : Nat} {ds : List Deferred} {ha hq : List Hd} {FA FQ : List (List Fd)} {los : List Bool} {s : SyV} {C : List Nat} {h1 h2 : Hd} {F1 F2 : List Fd}
    (h : LisM r sb w W pss aa k ac qa qc la lc ds ha hq FA FQ los s C h1 h2 F1 F2)
    {va vq vl : Option Addr} {vac vqc vlc : Nat} (hk : KeptP (fun j => (Value.slice aa k ac).ownBlock = some j ∨ (Value.slice qa k qc).ownBlock = some j ∨ (Value.slice la k lc).ownBlock = some j) W W')
    (oA : W'.ownsRow w.heap.size 33 1 (.slice va (k + 1) vac) (k + 1) (ha.map hv ++ [hv h1])) (oQ : W'.ownsRow w.heap.size 33 1 (.slice vq (k + 1) vqc) (k + 1) (hq.map hv ++ [hv h2]))
    (oL : W'.ownsRow w.heap.size 4 1 (.slice vl (k + 1) vlc) (k + 1) (los.map Value.bool ++ [.bool s.lo])) (hap : ∀ j, (Value.slice va (k + 1) vac).ownBlock = some j → (Value.slice vq (k + 1) vqc).ownBlock ≠ some j) :
    LisI r sb w W' pss va (k + 1) vac vq vqc vl vlc ds (ha ++ [h1]) (hq ++ [h2]) (FA ++ [F1]) (FQ ++ [F2]) (los ++ [s.lo]) s C := by
  have hS : OnlyT W (fun j => (Value.slice aa k ac).ownBlock = some j ∨ (Value.slice qa k qc).ownBlock = some j ∨ (Value.slice la k lc).ownBlock = some j) := by
    rintro j (hj | hj | hj)
    · obtain ⟨cs, hc⟩ := own_block h.colA.row hj; exact ⟨cs, 33, hc, .inl rfl⟩
    · obtain ⟨cs, hc⟩ := own_block h.colQ.row hj; exact ⟨cs, 33, hc, .inl rfl⟩
    · obtain ⟨cs, hc⟩ := own_block h.lo hj; exact ⟨cs, 4, hc, .inr rfl⟩
  have hsy := hS.sy hk h.sy
  refine ⟨⟨by rw [List.map_append]; exact oA, by rw [List.length_append, ← h.colA.len]; rfl, forall2_snoc (forall2_imp (fun _ _ y => hS.hdr hk y) h.colA.each) (hS.hdr hk h.hd1), fun j hj => syB_row hsy oA (by decide) (by decide) hj⟩,
    ⟨by rw [List.map_append]; exact oQ, by rw [List.length_append, ← h.colQ.len]; rfl, forall2_snoc (forall2_imp (fun _ _ y => hS.hdr hk y) h.colQ.each) (hS.hdr hk h.hd2), fun j hj => syB_row hsy oQ (by decide) (by decide) hj⟩,
    hap, h.same, by rw [List.map_append]; exact oL, hsy, h.rl, h.fn, h.lis, h.inv, h.bw, h.sbw, ?_, h.marks.keptP hk (fun j o hj ho => ?_)⟩
  · refine h.blw.trans (hk.toBelow h.blw.size (fun j hj hs => ?_))
    rcases hs with hs | hs | hs
    · have := (h.colA.row.lt j hs).1; omega
    · have := (h.colQ.row.lt j hs).1; omega
    · have := (h.lo.lt j hs).1; omega
  · obtain ⟨cs, T, hc, _⟩ := hS j hj
    rw [hc] at ho
    cases ho
    rfl
theorem syB_lt {W : World} {sb : Nat} {s : SyV} {C : List Nat} (h : SyIn W sb s C) {j : Nat} (hb : SyB s sb j) : j < W.heap.size := by
  rcases hb with rfl | hb
  · exact h.at_.lt
  · exact own_lt h.own hb
theorem hdr_mk {W V0 : World} {B0 sb : Nat} {s : SyV} {C : List Nat} (hs : SyIn V0 sb s C) (hb : Below V0.heap.size V0 W) (hB : B0 ≤ V0.heap.size) {h : Hd} {F : List Fd} (r1 : W.ownsRow V0.heap.size 35 4 (hv h) h.2.1 (fcs F)) (l1 : h.2.1 = F.length) (i1 : ∀ f ∈ F, f.In W V0.heap.size) : HdrAt W B0 (SyB s sb) h F := by
  refine ⟨ownsRow_mono r1 hB, l1, fun f hf => ⟨ownsRow_mono (i1 f hf).1 hB, (i1 f hf).2⟩, fun j hj => syB_row (hs.below hb) r1 (by decide) (by decide) hj, fun f hf j hj hS => ?_⟩
  have := ((i1 f hf).1.lt j hj).1
  have := syB_lt hs hS
  omega
/-- the marks when Take is done -/
theorem LisI.marks0 {r : Rl} {sb : Nat} {w W : World} {pss : List (List Nat)} {aa : Option Addr} {k ac : Nat} {qa : Option Addr} {qc : Nat} {la : Option Addr} {lc : Nat} {ds : List Deferred} {ha hq : List Hd} {FA FQ : List (List Fd)} {los : List Bool} {s : SyV} {C : List Nat}
    (h : LisI r sb w W pss aa k ac qa qc la lc ds ha hq FA FQ los s C) {D : List Nat} {V0 : World} {lb : Nat} {fa : Option Addr} {fn fc : Nat} {FF : List Fd} {s' : SyV} (hQ : TakeQ sb s D W V0 lb fa fn fc FF s') : Marks w.heap.size ds V0 :=
  h.marks.keptP hQ.kept (fun j o hj ho => by
    rcases hj with rfl | hj
    · rw [show W.heap[j]? = _ from h.sy.at_] at ho; cases ho; rfl
    · obtain ⟨cs, hc⟩ := own_block h.sy.own hj
      rw [hc] at ho; cases ho; rfl)
theorem LisI.mid {r : Rl} {sb : Nat} {w W : World} {pss : List (List Nat)} {aa : Option Addr} {k ac : Nat} {qa : Option Addr} {qc : Nat} {la : Option Addr} {lc : Nat} {ds : List Deferred} {ha hq : List Hd} {FA FQ : List (List Fd)} {los : List Bool} {s : SyV} {C : List Nat}
    (h : LisI r sb w W pss aa k ac qa qc la lc ds ha hq FA FQ los s C) {ps : List Nat} {V0 : World} {lb : Nat} {fa : Option Addr} {fn fc : Nat} {FF : List Fd} {s' : SyV} (hQ : TakeQ sb s (C ++ par ps) W V0 lb fa fn fc FF s')
    (hps : pss.take (k + 1) = pss.take k ++ [ps]) {W3 : World} (hb : Below V0.heap.size V0 W3) {h1 h2 : Hd} {F1 F2 : List Fd}
    (r1 : W3.ownsRow V0.heap.size 35 4 (hv h1) h1.2.1 (fcs F1)) (l1 : h1.2.1 = F1.length) (i1 : ∀ f ∈ F1, f.In W3 V0.heap.size) (e1 : F1.map Fd.fo = FF.map Fd.fo)
    (r2 : W3.ownsRow V0.heap.size 35 4 (hv h2) h2.2.1 (fcs F2)) (l2 : h2.2.1 = F2.length) (i2 : ∀ f ∈ F2, f.In W3 V0.heap.size) (e2 : F2.map Fd.fo = FF.map Fd.fo)
    {ds' : List Deferred} (hM : Marks w.heap.size ds' W3) : LisM r sb w W3 pss aa k ac qa qc la lc ds' ha hq FA FQ los s' (C ++ par ps) h1 h2 F1 F2 := by
  have hwW := h.blw.size
  have hWV := hQ.kept.size
  have hS : ∀ j, j < W.heap.size → SyB s' sb j → SyB s sb j := fun j hj hs => by
    rcases hs with hs | hs
    · exact .inl hs
    · rcases hQ.bw j hs with h1 | h1
      · exact .inr h1
      · omega
  have k0 : KeptP (fun _ => False) V0 W3 := KeptP.below hb
  have ka := (h.colA.kept hQ.kept (fun _ _ h => h) hS).kept k0 (fun _ _ h => h.elim) (fun _ _ h => h)
  have kq := (h.colQ.kept hQ.kept (fun _ _ h => h) hS).kept k0 (fun _ _ h => h.elim) (fun _ _ h => h)
  have hrl : Go.Proofs.Ytlbpmepifegeiaa.rl s' = r := hQ.rl.trans h.rl
  have hrun := hQ.run
  rw [h.rl] at hrun
  refine ⟨ka, kq, h.apart, ?_, ?_, hQ.sy.below hb, hrl, hQ.fn, ?_, by have := hQ.inv; rwa [h.rl] at this, ?_, h.sbw, ?_, hM, hdr_mk hQ.sy hb (by omega) r1 l1 i1, hdr_mk hQ.sy hb (by omega) r2 l2 i2⟩
  · rw [List.map_append, List.map_append, h.same]; simp [e1, e2]
  · refine k0.own (hQ.kept.own h.lo (fun j hj => syB_row h.sy h.lo (by decide) (by decide) hj)) (fun _ _ h => h.elim)
  · have := Lis.snoc h.lis hrun
    rw [hps, List.map_append]
    have e3 : (core s').lo = s'.lo := rfl
    simpa [e1, e3] using this
  · intro j hj
    rcases hQ.bw j hj with h1 | h1
    · exact h.bw j h1
    · omega
  · refine (h.blw.trans (hQ.kept.toBelow hwW (fun j hj hs => ?_))).trans (hb.mono (by omega))
    rcases hs with rfl | hs
    · have := h.sbw; omega
    · have := h.bw j hs; omega
/-- the boxes stay -/
def Two (H : Nat) (u u' : World) : Prop := u'.heap[H]? = u.heap[H]? ∧ u'.heap[H + 1]? = u.heap[H + 1]?
theorem Two.refl (H : Nat) (u : World) : Two H u u := ⟨rfl, rfl⟩
theorem Two.trans (H : Nat) (a b c : World) (h : Two H a b) (k : Two H b c) : Two H a c := ⟨k.1.trans h.1, k.2.trans h.2⟩
theorem Two.below {H : Nat} {u u' : World} (h : Below u.heap.size u u') (hs : H + 1 < u.heap.size) : Two H u u' := ⟨h.block _ (by omega), h.block _ hs⟩
theorem Two.grown {H : Nat} {u u' : World} {row : Option Nat} (h : u.grownBy u' row) (hs : H + 1 < u.heap.size) (hr : ∀ j, row = some j → j < H) : Two H u u' :=
  ⟨h.block _ (by omega) (fun e => by have := hr H e.symm; omega), h.block _ hs (fun e => by have := hr (H + 1) e.symm; omega)⟩
theorem one_row {X : World} {nb : Nat} {v : Value} {e : TypeId} (h : X.heap[nb]? = some (.cells #[v] e)) : ∀ j u, [v][j]? = some u → X.cell? ((⟨nb, 0, none⟩ : Addr).add j) = some u := by
  intro j u hj
  cases j with
  | zero => simp at hj; subst hj; rw [show ((⟨nb, 0, none⟩ : Addr).add 0) = ⟨nb, 0, none⟩ from rfl, cell_of_row _ _ _ _ _ _ h]; rfl
  | succ j => simp at hj

/-- the first list has grown -/
structure XF (w W3 : World) (aa : Option Addr) (k ac : Nat) (xs : List Value) (va : Option Addr) (vac : Nat) (X : World) : Prop where
  kept : KeptP (fun j => (Value.slice aa k ac).ownBlock = some j) W3 X
  own : X.ownsRow w.heap.size 33 1 (.slice va (k + 1) vac) (k + 1) xs
  wh : ∀ j, (Value.slice va (k + 1) vac).ownBlock = some j → (Value.slice aa k ac).ownBlock = some j ∨ W3.heap.size ≤ j
theorem XF.append {w W3 U V : World} {aa va : Option Addr} {k ac vac : Nat} {xs : List Value} (b : Below W3.heap.size W3 U) (oV : V.ownsRow w.heap.size 33 1 (.slice va (k + 1) vac) (k + 1) xs) (gV : U.grownBy V (Value.slice aa k ac).ownBlock)
    (hat : (Value.slice va (k + 1) vac).ownBlock = (Value.slice aa k ac).ownBlock ∨ (Value.slice va (k + 1) vac).ownBlock = some U.heap.size) : XF w W3 aa k ac xs va vac V :=
  ⟨(KeptP.below (S := fun _ => False) b).trans (S := fun _ => False) (KeptP.refl _ _) (fun _ _ h => h) |>.mono (fun _ _ h => h.elim) |>.trans (KeptP.grown (S := fun j => (Value.slice aa k ac).ownBlock = some j) gV (fun r hr => hr)) (fun _ _ h => h), oV, fun j hj => by
    rcases hat with h | h
    · left; rw [← h]; exact hj
    · right; rw [h] at hj; cases hj; exact b.size⟩
theorem XF.below {w W3 V X : World} {aa va : Option Addr} {k ac vac : Nat} {xs : List Value} (h : XF w W3 aa k ac xs va vac V) (b : Below V.heap.size V X) : XF w W3 aa k ac xs va vac X :=
  ⟨h.kept.trans (KeptP.below (S := fun _ => False) b) (fun _ _ h => h.elim), ownsRow_below h.own b, h.wh⟩

section
variable {r : Rl} {sb : Nat} {w W : World} {pss : List (List Nat)} {aa : Option Addr} {k ac : Nat} {qa : Option Addr} {qc : Nat} {la : Option Addr} {lc : Nat} {ds : List Deferred} {ha hq : List Hd} {FA FQ : List (List Fd)} {los : List Bool} {s : SyV} {C : List Nat} {h1 h2 : Hd} {F1 F2 : List Fd}
theorem LisM.rowQ (h : LisM r sb w W pss aa k ac qa qc la lc ds ha hq FA FQ los s C h1 h2 F1 F2) {va : Option Addr} {vac : Nat} {xs : List Value} {X : World} (x : XF w W aa k ac xs va vac X) : X.ownsRow w.heap.size 33 1 (.slice qa k qc) k (hq.map hv) :=
  x.kept.own h.colQ.row (fun j hj hs => h.apart j hs hj)
theorem LisM.keptY (h : LisM r sb w W pss aa k ac qa qc la lc ds ha hq FA FQ los s C h1 h2 F1 F2) {va : Option Addr} {vac : Nat} {xs : List Value} {X Y : World} (x : XF w W aa k ac xs va vac X) (gY : X.grownBy Y (Value.slice qa k qc).ownBlock) :
    KeptP (fun j => (Value.slice aa k ac).ownBlock = some j ∨ (Value.slice qa k qc).ownBlock = some j ∨ (Value.slice la k lc).ownBlock = some j) W Y :=
  (x.kept.mono (fun j _ hj => Or.inl hj)).trans (KeptP.grown (S := fun j => (Value.slice qa k qc).ownBlock = some j) gY (fun r hr => hr)) (fun _ _ hj => .inr (.inl hj))
theorem LisM.only (h : LisM r sb w W pss aa k ac qa qc la lc ds ha hq FA FQ los s C h1 h2 F1 F2) : OnlyT W (fun j => (Value.slice aa k ac).ownBlock = some j ∨ (Value.slice qa k qc).ownBlock = some j ∨ (Value.slice la k lc).ownBlock = some j) := by
  rintro j (hj | hj | hj)
  · obtain ⟨cs, hc⟩ := own_block h.colA.row hj; exact ⟨cs, 33, hc, .inl rfl⟩
  · obtain ⟨cs, hc⟩ := own_block h.colQ.row hj; exact ⟨cs, 33, hc, .inl rfl⟩
  · obtain ⟨cs, hc⟩ := own_block h.lo hj; exact ⟨cs, 4, hc, .inr rfl⟩
theorem LisM.rowL (h : LisM r sb w W pss aa k ac qa qc la lc ds ha hq FA FQ los s C h1 h2 F1 F2) {va : Option Addr} {vac : Nat} {xs : List Value} {X Y : World} (x : XF w W aa k ac xs va vac X) (gY : X.grownBy Y (Value.slice qa k qc).ownBlock) :
    Y.ownsRow w.heap.size 4 1 (.slice la k lc) k (los.map Value.bool) := by
  have hx : X.ownsRow w.heap.size 4 1 (.slice la k lc) k (los.map Value.bool) := x.kept.own h.lo (fun j hj hs => by
    rcases own_apart h.lo h.colA.row (by decide) with h1 | h1
    · rw [h1] at hj; cases hj
    · exact h1 (hj.trans hs.symm))
  exact hx.kept gY (own_apart hx (h.rowQ x) (by decide))
theorem LisM.close (h : LisM r sb w W pss aa k ac qa qc la lc ds ha hq FA FQ los s C h1 h2 F1 F2) {va vq vl : Option Addr} {vac vqc vlc : Nat} {X Y Z : World} (x : XF w W aa k ac (ha.map hv ++ [hv h1]) va vac X)
    (oQ : Y.ownsRow w.heap.size 33 1 (.slice vq (k + 1) vqc) (k + 1) (hq.map hv ++ [hv h2])) (gY : X.grownBy Y (Value.slice qa k qc).ownBlock)
    (hat : (Value.slice vq (k + 1) vqc).ownBlock = (Value.slice qa k qc).ownBlock ∨ (Value.slice vq (k + 1) vqc).ownBlock = some X.heap.size)
    (oL : Z.ownsRow w.heap.size 4 1 (.slice vl (k + 1) vlc) (k + 1) (los.map Value.bool ++ [.bool s.lo])) (gZ : (Y.alloc (.cells #[.bool s.lo] 4)).grownBy Z (Value.slice la k lc).ownBlock) :
    LisI r sb w Z pss va (k + 1) vac vq vqc vl vlc ds (ha ++ [h1]) (hq ++ [h2]) (FA ++ [F1]) (FQ ++ [F2]) (los ++ [s.lo]) s C := by
  have bY := below_alloc Y (.cells #[.bool s.lo] 4)
  have lY := ownsRow_below (h.rowL x gY) bY
  have hne : ∀ j, (Value.slice va (k + 1) vac).ownBlock = some j → (Value.slice qa k qc).ownBlock ≠ some j := fun j hj hq => by
    rcases x.wh j hj with h1 | h1
    · exact h.apart j h1 hq
    · have := own_lt h.colQ.row hq; omega
  have oA : Y.ownsRow w.heap.size 33 1 (.slice va (k + 1) vac) (k + 1) (ha.map hv ++ [hv h1]) := by
    refine x.own.kept gY ?_
    by_cases hn : (Value.slice va (k + 1) vac).ownBlock = none
    · exact .inl hn
    · right
      intro he
      cases hv : (Value.slice va (k + 1) vac).ownBlock with
      | none => exact hn hv
      | some j => exact hne j hv (he.symm.trans hv)
  have oA2 := (ownsRow_below oA bY).kept gZ (own_apart (ownsRow_below oA bY) lY (by decide))
  have oQ2 := (ownsRow_below oQ bY).kept gZ (own_apart (ownsRow_below oQ bY) lY (by decide))
  refine h.next ?_ oA2 oQ2 oL (fun j hj hq => ?_)
  · exact ((h.keptY x gY).trans (KeptP.below (S := fun _ => False) bY) (fun _ _ h => h.elim)).trans (KeptP.grown (S := fun j => (Value.slice la k lc).ownBlock = some j) gZ (fun r hr => hr)) (fun _ _ hj => .inr (.inr hj))
  · rcases hat with h1 | h1
    · exact hne j hj (h1.symm.trans hq)
    · rw [h1] at hq
      cases hq
      have := own_lt x.own hj
      omega
end
theorem results_tmp4 {fn : Func} {t u v x : Tmp} (h : fn.results = #[.tmp t, .tmp u, .tmp v, .tmp x]) (tmps : Array Value) (P : Program) (w : World) :
    (results fn tmps).run P w = .ok (.tuple #[tmps.getD t undef, tmps.getD u undef, tmps.getD v undef, tmps.getD x undef]) w := by
  simp [results, h]
theorem own_cellsK {w w' : World} {base e size : Nat} {v : Value} {n : Nat} {xs : List Value} (h : w.ownsRow base e size v n xs) (hk : ∀ (g : Nat) (o : Obj), w.heap[g]? = some o → o.isCells = true → w'.heap[g]? = some o) : w'.ownsRow base e size v n xs := by
  refine ⟨h.1, ?_⟩
  rcases h.2 with hn | ⟨g, cap, cur, rfl, hB, hgg, rest⟩
  · exact .inl hn
  · exact .inr ⟨g, cap, cur, rfl, hB, hk g _ hgg rfl, rest⟩
/-- what Listen answers -/
structure ListenP (r : Rl) (pss : List (List Nat)) (w w' : World) (aa : Option Addr) (n ac : Nat) (la : Option Addr) (lc : Nat) (ha : List Hd) (FA : List (List Fd)) (los : List Bool) (C : List Nat) (m : Ms) : Prop where
  row : w'.ownsRow w.heap.size 33 1 (.slice aa n ac) n (ha.map hv)
  each : All2 (fun (h : Hd) F => w'.ownsRow w.heap.size 35 4 (hv h) h.2.1 (fcs F) ∧ h.2.1 = F.length ∧ ∀ f ∈ F, f.In w' w.heap.size) ha FA
  len : ha.length = n
  lo : w'.ownsRow w.heap.size 4 1 (.slice la n lc) n (los.map Value.bool)
  lis : Lis r [] (core (SyV.new r.L r.F r.H r.M)) pss (FA.map (·.map Fd.fo)) los C m
  blw : Below w.heap.size w w'
theorem LisI.done {r : Rl} {sb : Nat} {w W w' : World} {pss : List (List Nat)} {aa : Option Addr} {k ac : Nat} {qa : Option Addr} {qc : Nat} {la : Option Addr} {lc : Nat} {ds : List Deferred} {ha hq : List Hd} {FA FQ : List (List Fd)} {los : List Bool} {s : SyV} {C : List Nat}
    (h : LisI r sb w W pss aa k ac qa qc la lc ds ha hq FA FQ los s C) (hl : pss.length = k) (hb : Below w.heap.size W w') (hk : ∀ (g : Nat) (o : Obj), W.heap[g]? = some o → o.isCells = true → w'.heap[g]? = some o) :
    ListenP r pss w w' aa k ac la lc ha FA los C (core s) :=
  ⟨own_cellsK h.colA.row hk, forall2_imp (fun _ _ y => ⟨own_cellsK y.row hk, y.len, fun f hf => ⟨own_cellsK (y.ins f hf).1 hk, (y.ins f hf).2⟩⟩) h.colA.each, h.colA.len.symm, own_cellsK h.lo hk, by have := h.lis; rwa [List.take_of_length_le (by omega)] at this, h.blw.trans hb⟩
end Go.Proofs.Ytlbpmepifegeiaa
