/- GuardLatches: the law calls Step. -/
import Derived.Test.YtkgnelmnadnbhaaLawT3
namespace Go.Proofs.Ytkgnelmnadnbhaa
set_option linter.unusedVariables false
open Go.RowKit

/-- what lies in memory behind the call -/
structure AfterStep (C : Cx) (W : World) (V N : Nat) (s s' : St) (v v' : Vs) (names : List ByteArray) (na : Option Addr) (nc vb : Nat) (vals : List Int) (lv : Value) (long : List Nat) (tv : Value) (trips : List Nat) : Prop where
  mi : MI C W lv long tv trips
  va : VA W C.w0.heap.size C.n V s v lv tv
  vn : VA W C.w0.heap.size C.n N s' v' lv tv
  nm : OwnAt W C.w0.heap.size 9 (.slice na names.length nc) names.length (vsS names)
  vl : W.heap[vb]? = some (.cells (vz vals).toArray 3)
  al : lv.ownBlock ≠ some vb
  at_ : tv.ownBlock ≠ some vb
theorem AfterStep.below {C : Cx} {W W' : World} {V N : Nat} {s s' : St} {v v' : Vs} {names : List ByteArray} {na : Option Addr} {nc vb : Nat} {vals : List Int} {lv : Value} {long : List Nat} {tv : Value} {trips : List Nat} (h : AfterStep C W V N s s' v v' names na nc vb vals lv long tv trips) (hb : Below W.heap.size W W') : AfterStep C W' V N s s' v v' names na nc vb vals lv long tv trips :=
  ⟨h.mi.below hb, h.va.below hb, h.vn.below hb, h.nm.below hb, row_below h.vl hb, h.al, h.at_⟩
theorem AfterStep.setLong {C : Cx} {W : World} {V N : Nat} {s s' : St} {v v' : Vs} {names : List ByteArray} {na : Option Addr} {nc vb : Nat} {vals : List Int} {lb lo lc : Nat} {long : List Nat} {tv : Value} {trips : List Nat} (h : AfterStep C W V N s s' v v' names na nc vb vals (.slice (some ⟨lb, lo, none⟩) C.n lc) long tv trips) (k x : Nat) (hk : k < C.n) :
    AfterStep C (W.setCell ⟨lb, lo + k, none⟩ (.int .i64 (x : Int))) V N s s' v v' names na nc vb vals (.slice (some ⟨lb, lo, none⟩) C.n lc) (long.set k x) tv trips := by
  obtain ⟨m, g⟩ := h.mi.setLong k x hk
  have g2 : W.grownBy (W.setCell ⟨lb, lo + k, none⟩ (.int .i64 (x : Int))) (Value.slice (some ⟨lb, lo, none⟩) C.n lc).ownBlock := g
  exact ⟨m, h.va.kept h.mi.lo g2 h.va.a1 h.va.a2, h.vn.kept h.mi.lo g2 h.vn.a1 h.vn.a2, h.nm.kept g2 (h.nm.other h.mi.lo (by decide)), row_grown h.vl g (fun e => h.al (by rw [e]; rfl)), h.al, h.at_⟩
theorem AfterStep.grow {C : Cx} {W W' : World} {V N : Nat} {s s' : St} {v v' : Vs} {names : List ByteArray} {na : Option Addr} {nc vb : Nat} {vals : List Int} {lv : Value} {long : List Nat} {tv tv' : Value} {trips trips' : List Nat} (h : AfterStep C W V N s s' v v' names na nc vb vals lv long tv trips) (g : W.grownBy W' tv.ownBlock) (o : OwnAt W' C.w0.heap.size 3 tv' trips'.length (vi trips')) (hb : tv'.ownBlock = tv.ownBlock ∨ ∃ k, tv'.ownBlock = some k ∧ W.heap.size ≤ k) :
    AfterStep C W' V N s s' v v' names na nc vb vals lv long tv' trips' := by
  have hvb := row_lt h.vl
  refine ⟨h.mi.grow g o hb, (h.va.tv hb (Nat.le_refl _)).kept h.mi.tr g h.va.a3 h.va.a4, (h.vn.tv hb (Nat.le_refl _)).kept h.mi.tr g h.vn.a3 h.vn.a4, h.nm.kept g (h.nm.other h.mi.tr (by decide)), (g.block vb hvb (fun e => h.at_ e.symm)).trans h.vl, h.al, ?_⟩
  rcases hb with hb | ⟨k, hb, hk⟩
  · rw [hb]; exact h.at_
  · rw [hb]
    intro e
    cases e
    omega
theorem apart_new {W : World} {B M e n n' : Nat} {u v : Value} {xs ys : List Value} {W' : World} (h : OwnAt W B 3 u n xs) (k : OwnAt W' M e v n' ys) (hM : W.heap.size ≤ M) : Apart u v := fun j h1 h2 => by
  have := (h.lt j h1).2
  have := (k.lt j h2).1
  omega
/-- a box of a vigil is written: nothing else turns -/
theorem MI.box {C : Cx} {W W' : World} {N : Nat} {cs : Array Value} {lv tv : Value} {long trips : List Nat} (h : MI C W lv long tv trips) (hr : W.heap[N]? = some (.cells cs 33)) (g : W.grownBy W' (some N)) (hN : C.w0.heap.size ≤ N) : MI C W' lv long tv trips := by
  have hn : ∀ (b T : Nat) (ds : Array Value), 33 ≠ T → W.heap[b]? = some (.cells ds T) → W'.heap[b]? = some (.cells ds T) := fun b T ds hT k => row_grown k g (fun e => by
    subst e
    rw [hr] at k
    cases k
    exact hT rfl)
  obtain ⟨ds, hgr⟩ := h.gr
  exact ⟨h.blw.grown g h.blw.size (fun k e => by cases e; exact hN), hn _ _ _ (by decide) h.hg, h.rm.kept (k := 0) g (fun e => by
    cases e
    rw [hr] at hgr
    cases hgr), ⟨ds, hn _ _ _ (by decide) hgr⟩, h.lo.kept g (h.lo.ne hr (by decide)), h.tr.kept g (h.tr.ne hr (by decide)), h.ap⟩
theorem VA.box {W W' : World} {B n V N : Nat} {cs : Array Value} {s : St} {v : Vs} {lv tv : Value} (h : VA W B n V s v lv tv) (hr : W.heap[N]? = some (.cells cs 33)) (g : W.grownBy W' (some N)) (hN : V ≠ N) : VA W' B n V s v lv tv :=
  ⟨row_grown h.row g hN, h.bV, h.b.kept g (h.b.ne hr (by decide)), h.t.kept g (h.t.ne hr (by decide)), h.p.kept g (h.p.ne hr (by decide)), h.a1, h.a2, h.a3, h.a4⟩
/-- behind the call -/
theorem after_call {C : Cx} {W W1 : World} {V vb : Nat} {s s' : St} {v : Vs} {vals : List Int} {lv tv : Value} {long trips : List Nat} {names : List ByteArray} {e : Ending}
    (hm : MI C W lv long tv trips) (hv : VA W C.w0.heap.size C.n V s v lv tv) (hvl : W.heap[vb]? = some (.cells (vz vals).toArray 3)) (hal : lv.ownBlock ≠ some vb) (hat : tv.ownBlock ≠ some vb) (h : StepR W W1 C.n s' names e) :
    ∃ v' : Vs, ∃ na nc, e = .returned (.tuple #[vgv s'.safe s'.why v'.ba C.n v'.bc v'.ta v'.tc s'.quiet v'.pa s'.trips.length v'.pc, .slice na names.length nc, .int .i64 0]) ∧
      (∀ (W2 : World) (N : Nat), Below W1.heap.size W1 W2 → W2.heap[N]? = some (.cells (vRow C.n s' v') 33) → C.w0.heap.size ≤ N → AfterStep C W2 V N s s' v v' names na nc vb vals lv long tv trips) ∧
      (∀ (W2 : World) (N : Nat) (cs : Array Value), W1.grownBy W2 (some N) → W1.heap[N]? = some (.cells cs 33) → V ≠ N → W2.heap[N]? = some (.cells (vRow C.n s' v') 33) → C.w0.heap.size ≤ N → AfterStep C W2 V N s s' v v' names na nc vb vals lv long tv trips) := by
  obtain ⟨⟨a1, p1, a2, p2, pa, pc, na, nc, he, ob, ot, op, hn⟩, hb⟩ := h
  have hm1 := hm.below hb
  have hv1 := hv.below hb
  have hB : C.w0.heap.size ≤ W.heap.size := hm.blw.size
  have hvl1 := row_below hvl hb
  refine ⟨⟨a1, p1, a2, p2, pa, pc⟩, na, nc, he, fun W2 N hb2 hrow hN => ?_, fun W2 N cs g hr hVN hrow hN => ?_⟩
  · exact ⟨hm1.below hb2, hv1.below hb2, ⟨hrow, hN, (ob.mono hB).below hb2, (ot.mono hB).below hb2, (op.mono hB).below hb2, apart_new hm.lo ob (Nat.le_refl _), apart_new hm.lo op (Nat.le_refl _), apart_new hm.tr ob (Nat.le_refl _), apart_new hm.tr op (Nat.le_refl _)⟩, (hn.mono hB).below hb2, row_below hvl1 hb2, hal, hat⟩
  · exact ⟨hm1.box hr g hN, hv1.box hr g hVN, ⟨hrow, hN, (ob.mono hB).kept g (ob.ne hr (by decide)), (ot.mono hB).kept g (ot.ne hr (by decide)), (op.mono hB).kept g (op.ne hr (by decide)), apart_new hm.lo ob (Nat.le_refl _), apart_new hm.lo op (Nat.le_refl _), apart_new hm.tr ob (Nat.le_refl _), apart_new hm.tr op (Nat.le_refl _)⟩, (hn.mono hB).kept g (hn.ne hr (by decide)), row_grown hvl1 g (fun e => by
      subst e
      rw [hr] at hvl1
      cases hvl1), hal, hat⟩
theorem below_alloc2 (W : World) (o o' : Obj) {B : Nat} (hB : B ≤ W.heap.size) : Below B (W.alloc o) (W.alloc o') :=
  ⟨rfl, rfl, rfl, by simp, fun k hk => by
    have h1 := (below_alloc W o).block k (by omega)
    have h2 := (below_alloc W o').block k (by omega)
    exact h2.trans h1.symm⟩
set_option maxRecDepth 1000000 in
set_option maxHeartbeats 1000000 in
theorem law_step (C : Cx) (hC : C.Ok) (V quiet i vb : Nat) (lv tv : Value) (long trips : List Nat) (s : St) (v : Vs) (vals : List Int) (hvl : vals.length = 3) (hi : i < C.nL) (hS : StdP C.ms C.sil C.win s.safe s.why s.bad s.trp s.quiet s.trips) :
    Tri Try.prog 332 (pieceOf Try.f3 [1, 1, 1, 1, 1, 1, 1, 1, 1, 1, 1, 0, 1, 0, 0, 1, 0, 0, 1, 1, 0]) (fun y w => SL C y V lv tv quiet i ∧ y 20 = .slice (some ⟨vb, 0, none⟩) 3 3 ∧ MI C w lv long tv trips ∧ VA w C.w0.heap.size C.n V s v lv tv ∧ w.heap[vb]? = some (.cells (vz vals).toArray 3) ∧ lv.ownBlock ≠ some vb ∧ tv.ownBlock ≠ some vb)
      (fun _ _ y w => SL C y V lv tv quiet i ∧ y 20 = .slice (some ⟨vb, 0, none⟩) 3 3 ∧ ∃ N v' na nc, y 22 = .pointer (some ⟨N, 0, none⟩) ∧ y 23 = .slice na (nextN C.sil C.most C.win C.nam C.ms vals (C.lk i).heard (C.lk i).leave C.n s.safe s.why s.bad s.trp s.quiet s.trips).length nc ∧ y 24 = .int .i64 0 ∧
        AfterStep C w V N s (nextS C.sil C.most C.win C.ms vals (C.lk i).heard (C.lk i).leave C.n s.safe s.why s.bad s.trp s.quiet s.trips) v v' (nextN C.sil C.most C.win C.nam C.ms vals (C.lk i).heard (C.lk i).leave C.n s.safe s.why s.bad s.trp s.quiet s.trips) na nc vb vals lv long tv trips) := by
  rintro Q y w ⟨hSL, h20, hM, hV, hvr, hal, hat⟩ hQ
  have hl := hC.lk.below hM.blw
  obtain ⟨lb, lo, hla, hlb, hlc⟩ := hl.mem (by omega)
  obtain ⟨_, c1, c2⟩ := hlc i hi
  have hstep := fun W (h : Below w.heap.size w W) => step_ok C.gb C.n C.cap C.sil C.most C.win C.nam C.ms s.safe s.why v.ba v.bc v.ta v.tc s.quiet v.pa s.trips.length v.pc s.bad s.trp s.trips (some ⟨vb, 0, none⟩) 3 vals (C.lk i).heard (C.lk i).leave W
    (hM.rm.ext h) hC.gm hC.gg (hV.b.rd.below h) (hV.t.rd.below h) (hV.p.rd.below h) hS
    ⟨by rw [vz_len, hvl], Nat.le_refl _, by unfold maxLen; omega, (fun h => by cases h), fun _ => ⟨vb, 0, rfl, row_lt (row_below hvr h), fun j hj => by rw [cell_of_row _ _ _ _ _ _ (row_below hvr h), Nat.zero_add, List.getElem?_toArray]⟩⟩
  have hfin := fun W W1 (h : Below w.heap.size w W) e s' names (hR : StepR W W1 C.n s' names e) => after_call (hM.below h) (hV.below h) (row_below hvr h) hal hat hR
  obtain ⟨s4, s11, s13, s15, s16, s17, s18, s19⟩ := hSL
  rw [hla] at s4
  have HQ := hid hQ
  have Hla := hid hla
  have hhg := hM.hg
  have hhv := hV.row
  have HVw := hid (row_lt hV.row)
  have hB := hM.blw.size
  have hiL : i < 300 := Nat.lt_of_lt_of_le hi hC.n300
  unfold vRow at hhv
  generalize nextS C.sil C.most C.win C.ms vals (C.lk i).heard (C.lk i).leave C.n s.safe s.why s.bad s.trp s.quiet s.trips = s' at *
  generalize nextN C.sil C.most C.win C.nam C.ms vals (C.lk i).heard (C.lk i).leave C.n s.safe s.why s.bad s.trp s.quiet s.trips = names at *
  have Hstep := hid hstep
  have Hfin := hid hfin
  generalize (C.lk i).heard = hd at *
  generalize (C.lk i).leave = le at *
  clear hQ hlc hla hM hV hvr hstep hfin hS hal hat
  conv => arg 2; whnf
  rw [fr332]
  simp only [s4, s11, s13, s15, s16, s17, s18, s19, h20]
  clear s4 s11 s13 s15 s16 s17 s18 s19 h20
  obtain ⟨B0, hB0⟩ : ∃ B0, B0 = w.heap.size := ⟨_, rfl⟩
  refine wp_region_plan [13, 18, 19] (Plan.of [0, 1, 2, 3, 4, 5, 6, 7, 8, 9, 10, 11, 12] (.two 13 (Plan.of [14, 15, 16, 17, 18, 19, 20, 21] .nil) 18 (Plan.of [13, 14, 15, 16, 17, 19, 20, 21] .nil))) (Below B0) (fun _ => Below.refl _ _) (fun _ _ _ h k => h.trans k) (by kernel_rfl) (by kernel_rfl) ?_
  simp only [Plan.of, Plan.lay, List.contains_cons, List.contains_nil, List.getD_cons_zero, List.getD_cons_succ, Nat.reduceBEq, Bool.or_false, Bool.or_true]
  have hk : ∀ w', Below B0 w.drew w' → Below w.heap.size w w' := fun w' h => (Below.refl _ w).drew.trans (by rw [hB0] at h; exact h)
  have g0 : ∀ w', Below B0 w.drew w' → w'.cell? ⟨C.H, 0, none⟩ = some (.slice (some ⟨C.gb, 0, none⟩) C.n C.cap) := fun w' h => by rw [cell_of_row _ _ _ _ _ _ (row_below hhg (hk w' h))]; rfl
  have g1 : ∀ w', Below B0 w.drew w' → w'.cell? ⟨C.H, 1, none⟩ = some (.int .i64 (C.sil : Int)) := fun w' h => by rw [cell_of_row _ _ _ _ _ _ (row_below hhg (hk w' h))]; rfl
  have g2 : ∀ w', Below B0 w.drew w' → w'.cell? ⟨C.H, 2, none⟩ = some (.int .i64 (C.most : Int)) := fun w' h => by rw [cell_of_row _ _ _ _ _ _ (row_below hhg (hk w' h))]; rfl
  have g3 : ∀ w', Below B0 w.drew w' → w'.cell? ⟨C.H, 3, none⟩ = some (.int .i64 (C.win : Int)) := fun w' h => by rw [cell_of_row _ _ _ _ _ _ (row_below hhg (hk w' h))]; rfl
  have g4 : ∀ w', Below B0 w.drew w' → w'.cell? ⟨C.H, 4, none⟩ = some (.string C.nam) := fun w' h => by rw [cell_of_row _ _ _ _ _ _ (row_below hhg (hk w' h))]; rfl
  have v0 : ∀ w', Below B0 w.drew w' → w'.cell? ⟨V, 0, none⟩ = some (.bool s.safe) := fun w' h => by rw [cell_of_row _ _ _ _ _ _ (row_below hhv (hk w' h))]; rfl
  have v1 : ∀ w', Below B0 w.drew w' → w'.cell? ⟨V, 1, none⟩ = some (.int .i64 s.why) := fun w' h => by rw [cell_of_row _ _ _ _ _ _ (row_below hhv (hk w' h))]; rfl
  have v2 : ∀ w', Below B0 w.drew w' → w'.cell? ⟨V, 2, none⟩ = some (.slice v.ba C.n v.bc) := fun w' h => by rw [cell_of_row _ _ _ _ _ _ (row_below hhv (hk w' h))]; rfl
  have v3 : ∀ w', Below B0 w.drew w' → w'.cell? ⟨V, 3, none⟩ = some (.slice v.ta C.n v.tc) := fun w' h => by rw [cell_of_row _ _ _ _ _ _ (row_below hhv (hk w' h))]; rfl
  have v4 : ∀ w', Below B0 w.drew w' → w'.cell? ⟨V, 4, none⟩ = some (.int .i64 (s.quiet : Int)) := fun w' h => by rw [cell_of_row _ _ _ _ _ _ (row_below hhv (hk w' h))]; rfl
  have v5 : ∀ w', Below B0 w.drew w' → w'.cell? ⟨V, 5, none⟩ = some (.slice v.pa s.trips.length v.pc) := fun w' h => by rw [cell_of_row _ _ _ _ _ _ (row_below hhv (hk w' h))]; rfl
  have l1 : ∀ w', Below B0 w.drew w' → w'.cell? ⟨lb, lo + i * 3 + 1, none⟩ = some (.bool hd) := fun w' h => ((hk w' h).cell (p := ⟨lb, lo + i * 3 + 1, none⟩) hlb).trans c1
  have l2 : ∀ w', Below B0 w.drew w' → w'.cell? ⟨lb, lo + i * 3 + 2, none⟩ = some (.bool le) := fun w' h => ((hk w' h).cell (p := ⟨lb, lo + i * 3 + 2, none⟩) hlb).trans c2
  have Hk := hid hk
  have HB0 := hid hB0
  clear c1 c2 hhg hhv hk hB0
  have hd1 : Hid (w.drew.heap.size = w.heap.size) := rfl
  generalize w.drew = U at *
  repeat (refine wpTL_do rfl (fun w' hw' => (by go_simp; rfl)) ?_; simp only [Act.put, List.setIfInBounds_toArray, List.set_cons_succ, List.set_cons_zero])
  clear g0 g1 g2 g3 g4 v0 v1 v2 v3 v4 v5 l1 l2
  refine wpTL_two ?_ ?_
  · refine wpTL_call rfl (fun K hK => ?_)
    go_wp2_with fail
    refine (Hstep.out U (Hk.out U (Below.refl _ _))).mono ?_
    rintro e W1 hR
    obtain ⟨v', na, nc, rfl, hF, _⟩ := Hfin.out U W1 (Hk.out U (Below.refl _ _)) e _ _ hR
    have b1 := hR.below
    have HF := hid hF
    clear hF hR
    refine hK _ _ (b1.mono (by have := HB0.out; have := hd1.out; omega)) ?_
    clear hK K
    try simp only [Act.put, List.setIfInBounds_toArray, List.set_cons_succ, List.set_cons_zero]
    repeat (refine wpTL_do rfl (fun w' hw' => (by go_simp; rfl)) ?_; simp only [Act.put, List.setIfInBounds_toArray, List.set_cons_succ, List.set_cons_zero])
    have hB1 : B0 ≤ W1.heap.size := by have := b1.size; have := HB0.out; have := hd1.out; omega
    refine wpTL_call rfl (fun K hK => ?_)
    go_wp2_with fail
    refine hK _ _ ((below_alloc W1 _).mono hB1) ?_
    clear hK K
    try simp only [Act.put, List.setIfInBounds_toArray, List.set_cons_succ, List.set_cons_zero]
    refine wpTL_call rfl (fun K hK => ?_)
    go_wp2_with fail
    refine hK _ _ (below_alloc2 W1 _ _ hB1) ?_
    clear hK K
    try simp only [Act.put, List.setIfInBounds_toArray, List.set_cons_succ, List.set_cons_zero]
    have hEnd := hid (HF.out (W1.alloc (.cells (vRow C.n s' v') 33)) W1.heap.size (below_alloc W1 _) (heap_alloc_new W1 _) (by have := HB0.out; omega))
    unfold vRow at hEnd
    generalize W1.alloc _ = W2 at *
    repeat (refine wpTL_do rfl (fun w' hw' => (by go_simp; rfl)) ?_; simp only [Act.put, List.setIfInBounds_toArray, List.set_cons_succ, List.set_cons_zero])
    refine wpTL_nil ?_
    refine q_fr (N := 332) HQ.out rfl ⟨⟨by rw [Hla.out]; rfl, rfl, rfl, rfl, rfl, rfl, rfl, rfl⟩, rfl, _, v', na, nc, rfl, rfl, rfl, hEnd.out⟩
  · refine wpTL_call rfl (fun K hK => ?_)
    go_wp2_with fail
    have b0 := below_alloc U (.cells #[.bool false, .int .i64 0, .slice none 0 0, .slice none 0 0, .int .i64 0, .slice none 0 0] 33)
    have r0 := heap_alloc_new U (.cells #[.bool false, .int .i64 0, .slice none 0 0, .slice none 0 0, .int .i64 0, .slice none 0 0] 33)
    refine hK _ _ (b0.mono (by have := HB0.out; have := hd1.out; omega)) ?_
    clear hK K
    try simp only [Act.put, List.setIfInBounds_toArray, List.set_cons_succ, List.set_cons_zero]
    obtain ⟨N, hN⟩ : ∃ N, N = U.heap.size := ⟨_, rfl⟩
    rw [← hN] at r0 ⊢
    have HN := hid hN
    have hU1 := hid (Hk.out _ (b0.mono (by have := HB0.out; have := hd1.out; omega)))
    have r0 := hid r0
    have hU2 := hid b0.size
    clear b0 hN
    generalize U.alloc (.cells #[.bool false, .int .i64 0, .slice none 0 0, .slice none 0 0, .int .i64 0, .slice none 0 0] 33) = U1 at *
    refine wpTL_call rfl (fun K hK => ?_)
    go_wp2_with fail
    refine (Hstep.out U1 hU1.out).mono ?_
    rintro e W1 hR
    obtain ⟨v', na, nc, rfl, _, hF⟩ := Hfin.out U1 W1 hU1.out e _ _ hR
    have b1 := hR.below
    have HF := hid hF
    have r1 := row_below r0.out b1
    have hB1 : B0 ≤ U1.heap.size := by have := HB0.out; have := hd1.out; have := hU2.out; omega
    clear hF hR
    refine hK _ _ (b1.mono hB1) ?_
    clear hK K
    try simp only [Act.put, List.setIfInBounds_toArray, List.set_cons_succ, List.set_cons_zero]
    repeat (refine wpTL_do rfl (fun w' hw' => (by go_simp; rfl)) ?_; simp only [Act.put, List.setIfInBounds_toArray, List.set_cons_succ, List.set_cons_zero])
    obtain ⟨q6, g6⟩ := sixG r1 (.bool s'.safe) (.int .i64 s'.why) (.slice v'.ba C.n v'.bc) (.slice v'.ta C.n v'.tc) (.int .i64 (s'.quiet : Int)) (.slice v'.pa s'.trips.length v'.pc)
    have z0 : W1.cell? ⟨N, 0, none⟩ = some (.bool false) := by rw [cell_of_row _ _ _ _ _ _ r1]; rfl
    have z1 : W1.cell? ⟨N, 1, none⟩ = some (.int .i64 0) := by rw [cell_of_row _ _ _ _ _ _ r1]; rfl
    have z2 : W1.cell? ⟨N, 2, none⟩ = some (.slice none 0 0) := by rw [cell_of_row _ _ _ _ _ _ r1]; rfl
    have z3 : W1.cell? ⟨N, 3, none⟩ = some (.slice none 0 0) := by rw [cell_of_row _ _ _ _ _ _ r1]; rfl
    have z4 : W1.cell? ⟨N, 4, none⟩ = some (.int .i64 0) := by rw [cell_of_row _ _ _ _ _ _ r1]; rfl
    have z5 : W1.cell? ⟨N, 5, none⟩ = some (.slice none 0 0) := by rw [cell_of_row _ _ _ _ _ _ r1]; rfl
    have fz := frozen_row r1
    have hNB : B0 ≤ N := by have := HB0.out; have := hd1.out; have := HN.out; omega
    have hEnd := hid q6
    have G6 := hid g6
    have R1 := hid r1
    clear q6 g6 r1
    refine wpTL_call rfl (fun K hK => ?_)
    go_wp2_with fail
    refine hK _ _ ((Below.refl _ _).grown G6.out (by have := b1.size; omega) (fun k e => by cases e; exact hNB)) ?_
    clear hK K z0 z1 z2 z3 z4 z5 fz
    try simp only [Act.put, List.setIfInBounds_toArray, List.set_cons_succ, List.set_cons_zero]
    repeat (refine wpTL_do rfl (fun w' hw' => (by go_simp; rfl)) ?_; simp only [Act.put, List.setIfInBounds_toArray, List.set_cons_succ, List.set_cons_zero])
    have hEnd := hid (HF.out _ N _ G6.out R1.out (by have := HN.out; have := hd1.out; have := HVw.out; omega) hEnd.out (by have := HB0.out; omega))
    unfold vRow at hEnd
    generalize (((((W1.setCell ⟨N, 0, none⟩ (.bool s'.safe)).setCell ⟨N, 1, none⟩ (.int .i64 s'.why)).setCell ⟨N, 2, none⟩ (.slice v'.ba C.n v'.bc)).setCell ⟨N, 3, none⟩ (.slice v'.ta C.n v'.tc)).setCell ⟨N, 4, none⟩ (.int .i64 (s'.quiet : Int))).setCell ⟨N, 5, none⟩ (.slice v'.pa s'.trips.length v'.pc) = W2 at *
    refine wpTL_nil ?_
    refine q_fr (N := 332) HQ.out rfl ⟨⟨by rw [Hla.out]; rfl, rfl, rfl, rfl, rfl, rfl, rfl, rfl⟩, rfl, _, v', na, nc, rfl, rfl, rfl, hEnd.out⟩
end Go.Proofs.Ytkgnelmnadnbhaa
