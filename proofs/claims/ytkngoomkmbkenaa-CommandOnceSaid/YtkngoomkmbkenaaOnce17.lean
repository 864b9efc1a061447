/- The walk stops at a store of a given type; a whole block is stored to at once, and loaded. -/
import Derived.Laws.Rows
import Derived.Laws.Tables
import Derived.Test.YtkngoomkmbkenaaOnce2
import Derived.Test.YtkngoomkmbkenaaOnce16
namespace Go.Proofs.Ytkngoomkmbkenaa
set_option linter.unusedVariables false
open Go.RowKit

theorem at_store {P : Program} {ops : Array Oper} {Q : Exit → Act → World → Prop} {rest : List Oper} {a : Act} {w : World} (ty : TypeId) {x y : Operand} {t : TypeId} {pos : String} {after : Array Edge} {guard : Option (Nat × Bool)}
    (h : Hid (wpList P ops Q ({ dst := none, op := .store ty x y, type := t, pos := pos, after := after, guard := guard } :: rest) a w)) : wpList P ops Q ({ dst := none, op := .store ty x y, type := t, pos := pos, after := after, guard := guard } :: rest) a w := h
theorem set_whole {W : World} {b : Nat} {e : TypeId} {cs cs' : Array Value} (A : W.heap[b]? = some (.cells cs e)) : (W.setRow b cs').heap[b]? = some (.cells cs' e) ∧ W.grownBy (W.setRow b cs') (some b) :=
  ⟨setRow_heap W b cs cs' e (0, 0) A, ⟨rfl, rfl, rfl, by simp, fun k hk hne => setRow_other W b k cs' (fun e => hne (by rw [e]))⟩⟩
theorem results_c1 {P : Program} {fn : Func} {p u : Tmp} {ty : TypeId} (h : fn.results = #[.cell p ty, .tmp u]) (tmps : Array Value) (w : World) (g : Nat) (t : TypeId) (cs : Array Value) (fr : Nat × Nat)
    (hp : tmps.getD p undef = .pointer (some ⟨g, 0, none⟩)) (hg : w.heap[g]? = some (.cells cs t fr))
    (hud : (P.underlying ty).map (fun d => match d with | .struct _ | .array _ _ => true | _ => false) = some true) (hi : (P.info? ty).map (·.size) = some cs.size) :
    (results fn tmps).run P w = .ok (.tuple #[.agg cs, tmps.getD u undef]) w := by
  obtain ⟨d, hu, hd⟩ := Option.map_eq_some_iff.1 hud
  have hp' : tmps[p]?.getD undef = .pointer (some ⟨g, 0, none⟩) := by simpa using hp
  simp [results, h, hp', asAddr, run_loadVar_row w g t ty cs fr d hg hu (by cases d <;> first | rfl | cases hd) hi]
end Go.Proofs.Ytkngoomkmbkenaa
/- A frame arrives: the walk. -/
namespace Go.Proofs.Ytkngoomkmbkenaa
set_option linter.unusedVariables false
open Go.RowKit

theorem LM.gate {W : World} {L B : Nat} {s : LS} (h : LM W L B s) (G2 : Gt) : LM (((((((W.setCell ⟨L, 12, none⟩ (.int .i64 G2.cr)).setCell ⟨L, 13, none⟩ (.int .i64 G2.nx)).setCell ⟨L, 14, none⟩ (.int .i64 G2.hf)).setCell ⟨L, 15, none⟩ (.bool G2.sh)).setCell ⟨L, 16, none⟩ (.bool G2.wa)).setCell ⟨L, 17, none⟩ (.bool G2.ag)).setCell ⟨L, 18, none⟩ (.int .i64 G2.ct)) L B { s with g := G2 } ∧ W.grownBy (((((((W.setCell ⟨L, 12, none⟩ (.int .i64 G2.cr)).setCell ⟨L, 13, none⟩ (.int .i64 G2.nx)).setCell ⟨L, 14, none⟩ (.int .i64 G2.hf)).setCell ⟨L, 15, none⟩ (.bool G2.sh)).setCell ⟨L, 16, none⟩ (.bool G2.wa)).setCell ⟨L, 17, none⟩ (.bool G2.ag)).setCell ⟨L, 18, none⟩ (.int .i64 G2.ct)) (some L) := by
  obtain ⟨a0, b0⟩ := set_row (cs' := LS.cells { s with g := ⟨G2.cr, s.g.nx, s.g.hf, s.g.sh, s.g.wa, s.g.ag, s.g.ct⟩ }) h.bx 12 (.int .i64 G2.cr) rfl
  obtain ⟨a1, b1⟩ := set_row (cs' := LS.cells { s with g := ⟨G2.cr, G2.nx, s.g.hf, s.g.sh, s.g.wa, s.g.ag, s.g.ct⟩ }) a0 13 (.int .i64 G2.nx) rfl
  obtain ⟨a2, b2⟩ := set_row (cs' := LS.cells { s with g := ⟨G2.cr, G2.nx, G2.hf, s.g.sh, s.g.wa, s.g.ag, s.g.ct⟩ }) a1 14 (.int .i64 G2.hf) rfl
  obtain ⟨a3, b3⟩ := set_row (cs' := LS.cells { s with g := ⟨G2.cr, G2.nx, G2.hf, G2.sh, s.g.wa, s.g.ag, s.g.ct⟩ }) a2 15 (.bool G2.sh) rfl
  obtain ⟨a4, b4⟩ := set_row (cs' := LS.cells { s with g := ⟨G2.cr, G2.nx, G2.hf, G2.sh, G2.wa, s.g.ag, s.g.ct⟩ }) a3 16 (.bool G2.wa) rfl
  obtain ⟨a5, b5⟩ := set_row (cs' := LS.cells { s with g := ⟨G2.cr, G2.nx, G2.hf, G2.sh, G2.wa, G2.ag, s.g.ct⟩ }) a4 17 (.bool G2.ag) rfl
  obtain ⟨a6, b6⟩ := set_row (cs' := LS.cells { s with g := ⟨G2.cr, G2.nx, G2.hf, G2.sh, G2.wa, G2.ag, G2.ct⟩ }) a5 18 (.int .i64 G2.ct) rfl
  have hg := grownBy_trans (grownBy_trans (grownBy_trans (grownBy_trans (grownBy_trans (grownBy_trans (b0) b1) b2) b3) b4) b5) b6
  exact ⟨h.set hg a6 (h.lr.nums G2 s.A s.st s.hd), hg⟩
theorem bytes1 (i : Nat) : vb [i] = [.int .u8 (i : Int)] := rfl
theorem arrive_r (l : LK) (i : Nat) (room : Bool) : (arrive l i room).r = if i = l.r ∧ room = true then l.r + 1 else l.r := by
  unfold arrive
  by_cases e : i = l.r
  · rw [if_pos e]
    by_cases e2 : room = true
    · rw [if_pos e2, if_pos ⟨e, e2⟩]
    · rw [if_neg e2, if_neg (fun h => e2 h.2)]
  · have e' : ¬ (i = l.r ∧ room = true) := fun h => e h.1
    rw [if_neg e, if_neg e']
    split <;> rfl
theorem LP.arr {ah pt pz : Nat} {s s' : LS} {l : LK} (h : LP ah pt pz s l) (i : Nat) (room : Bool) (e1 : s'.x = s.x) (e2 : s'.Rw = s.Rw) (e3 : s'.Ro = s.Ro) (e4 : s'.g = gateL (arrive l i room)) (e5 : s'.ds = List.range (arrive l i room).r) (e6 : s'.A = s.A) (e7 : s'.st = s.st) (e8 : s'.hd = s.hd) : LP ah pt pz s' (arrive l i room) := by
  obtain ⟨a1, a2, a3, a4, a5, a6, a7⟩ := arrive_facts l i room
  refine ⟨by rw [a1, e1]; exact h.H, by rw [a2, e2]; exact h.W, by rw [a3, e3]; exact h.O, e4, e5, by rw [a1, e6]; exact h.A, ?_, by rw [a7, e8]; exact h.hd⟩
  rw [a4, a5, a6, a7, e7]
  exact h.st
/-- the blocks of type T stay -/
def Stays (T : TypeId) (W W' : World) : Prop := ∀ (X : Nat) (cs : Array Value), W.heap[X]? = some (Obj.cells cs T) → W'.heap[X]? = some (Obj.cells cs T)
theorem Stays.refl (T : TypeId) (W : World) : Stays T W W := fun _ _ h => h
theorem Stays.trans {T : TypeId} {W W' W'' : World} (h : Stays T W W') (k : Stays T W' W'') : Stays T W W'' := fun X cs hx => k X cs (h X cs hx)
theorem Stays.below {T : TypeId} {W0 W W' : World} (h : Stays T W0 W) (hb : Below W.heap.size W W') : Stays T W0 W' := fun X cs hx => row_below (h X cs hx) hb
theorem Stays.grown {T : TypeId} {W0 W W' : World} {row : Option Nat} (h : Stays T W0 W) (hg : W.grownBy W' row) (hne : ∀ b cs, W.heap[b]? = some (.cells cs T) → row ≠ some b) : Stays T W0 W' := fun X cs hx => by
  have h1 := h X cs hx
  exact (hg.block X (row_lt h1) (fun e => hne X cs h1 e.symm)).trans h1
structure ArrR (ah pt pz : Nat) (W0 W : World) (L B : Nat) (l : LK) (e : Ending) : Prop where
  he : e = .returned (.bool true)
  ex : ∃ s', LM W L B s' ∧ LP ah pt pz s' l
  blw : Below B W0 W
  st : Stays 49 W0 W
theorem Try.info5' : (Try.prog.info? 5).map (fun i => (i.zero, i.size, i.bytes)) = some (some (.int .u8 0), 1, 1) := by kernel_rfl
theorem Try.underlying31 : Try.prog.underlying 31 = some (.slice 5) := by kernel_rfl
theorem errA_in (l : LK) (i : Nat) (room : Bool) : errA l i room = 0 ∨ errA l i room = 7 ∨ errA l i room = 12 ∨ errA l i room = 13 := by
  unfold errA
  split
  · split
    · exact .inl rfl
    · exact .inr (.inr (.inl rfl))
  · split
    · exact .inr (.inl rfl)
    · exact .inr (.inr (.inr rfl))
set_option maxRecDepth 1000000 in
set_option maxHeartbeats 2000000 in
theorem arr_5 (er : Int) (h : er = 0 ∨ er = 7 ∨ er = 12 ∨ er = 13) :
    Tri Try.prog 68 (pieceOf Try.f26 [1, 1, 1, 1, 0]) (fun y w => y 11 = .int .i64 er) (fun y w y' w' => w' = w ∧ y' 0 = y 0 ∧ y' 7 = y 7 ∧ y' 9 = y 9 ∧ y' 10 = y 10) := by
  rintro Q y w s11 hQ
  have HQ := hid hQ
  clear hQ
  conv => arg 2; whnf
  rw [fr68]
  simp only [s11]
  clear s11
  rcases h with rfl | rfl | rfl | rfl
  all_goals
    refine wp_seq_k (fun K0 hK0 => ?_)
    go_wp2_with fail
    refine hK0.out _ _ ?_
    go_wp2_with fail
    exact q_fr (N := 68) HQ.out rfl ⟨rfl, rfl, rfl, rfl, rfl⟩
set_option maxRecDepth 1000000 in
set_option maxHeartbeats 2000000 in
theorem arrives_ok (ah pt pz L B i : Nat) (room : Bool) (a : Option Addr) (c : Nat) (s : LS) (l : LK) (w : World) (hB : B ≤ L) (hM : LM w L B s) (hP : LP ah pt pz s l) (hr : l.r ≤ 100) (hi : i ≤ 100) (hrow : RdT 5 w a 8 c (vb (cmdB i))) :
    Calls Try.prog 26 #[.pointer (some ⟨L, 0, none⟩), .slice a 8 c, .bool room] w fun e w' => ArrR ah pt pz w w' L B (arrive l i room) e := by
  obtain ⟨i0, hi0, hz0, hz1, hz2⟩ := info_parts Try.info5'
  have Hdn := hid (hP.dn hM.lr)
  have HM := hid hM
  have HP := hid hP
  have HlB := hid (show B ≤ w.heap.size from Nat.le_trans hB (Nat.le_of_lt (row_lt hM.bx)))
  have hdec := decode_far 3 false false i [i] a 1 c w rfl hrow.rd (fun y hy => by rw [List.mem_singleton] at hy; omega) (by decide) (by omega) (fun h => by cases h) (by decide) (by decide)
  unfold ocells at hdec
  simp only [Nat.reduceAdd] at hdec
  rw [show ((3 : Nat) : Int) = 3 from rfl] at hdec
  have HDec := hid hdec
  clear hM hP hrow hdec
  go_enter Try.func26, Try.ntmps26
  refine wp_seq_k (fun K0 hK0 => ?_)
  go_wp2_with fail
  refine hK0.out _ _ ?_
  refine wp_seq_k (fun K1 hK1 => ?_)
  go_wp2_with fail
  refine HDec.out.mono ?_
  rintro e V ⟨ao, cc, rfl, hdr, hb, hfar⟩
  have HM1 := hid (HM.out.below hb)
  have HB1 := hid (hb.mono HlB.out)
  have HK1 := hid ((Stays.refl 49 w).below hb)
  have Hdr := hid hdr
  have Hfar := hid (fun b off (h : ao = some ⟨b, off, none⟩) => Nat.le_trans (Nat.le_refl _) (hfar b off (by decide) h))
  have hdl : s.dv.ownBlock = none ∨ ∀ b off, ao = some ⟨b, off, none⟩ → s.dv.ownBlock ≠ some b := by
    refine .inr (fun b off h e => ?_)
    have h1 := (HM.out.lr.dO.lt b e).2
    have h2 := hfar b off (by decide) h
    omega
  have Hdl := hid hdl
  have hLw := row_lt HM.out.bx
  clear hdr hb hfar HDec HM hdl
  have bN := below_alloc V (.cells #[.int .i64 3, .bool false, .bool false, .int .i64 (i : Int), .slice ao 1 cc] 33)
  have HO := hid (heap_alloc_new V (.cells #[.int .i64 3, .bool false, .bool false, .int .i64 (i : Int), .slice ao 1 cc] 33))
  have HM2 := hid (HM1.out.below bN)
  have HB2 := hid (HB1.out.trans (bN.mono (Nat.le_trans HlB.out HB1.out.size)))
  have HK2 := hid (HK1.out.below bN)
  have Hdr2 := hid (Hdr.out.below bN)
  have hOB : B ≤ V.heap.size := Nat.le_trans HlB.out HB1.out.size
  clear bN HM1 HB1 Hdr
  go_wp2_with fail
  refine hK1.out _ _ ?_
  obtain ⟨O, hO⟩ : ∃ O, O = V.heap.size := ⟨_, rfl⟩
  rw [← hO] at HO hOB ⊢
  clear hO
  generalize V.alloc (.cells #[.int .i64 3, .bool false, .bool false, .int .i64 (i : Int), .slice ao 1 cc] 33) = W at *
  have o4 : W.cell? ⟨O, 4, none⟩ = some (.slice ao 1 cc) := by rw [cell_of_row _ _ _ _ _ _ HO.out]; rfl
  refine wp_seq_k (fun K2 hK2 => ?_)
  go_wp2_with fail
  refine hK2.out _ _ ?_
  clear o4
  refine wp_seq_k (fun K3 hK3 => ?_)
  have h4 := hid (arr_4 L B O i cc room ao s (by rw [HP.out.g]; exact gateL_ok hr) (by rw [HP.out.g]; rfl) hi)
  refine use_fr (N := 68) rfl ?_
  refine Tri.use h4.out rfl ⟨rfl, rfl, rfl, HM2.out, HO.out⟩ ?_
  rintro y4 W4 ⟨s0, s7, s6, s10, s11, hb4, D, s9, hD⟩
  refine hK3.out _ _ ?_
  rw [HP.out.g, numG_arr l i room hi hr] at s10 s11 hD
  have HM4 := hid (HM2.out.below hb4)
  have HB4 := hid (HB2.out.trans (hb4.mono (Nat.le_trans HlB.out HB2.out.size)))
  have HK4 := hid (HK2.out.below hb4)
  have HO4 := hid (row_below HO.out hb4)
  have HD4 := hid hD
  have Hdr4 := hid (Hdr2.out.below hb4)
  clear hb4 hD HM2 HB2 HO Hdr2 h4
  refine wp_seq_k (fun K5 hK5 => ?_)
  refine Tri.use (arr_5 (errA l i room) (errA_in l i room)) rfl s11 ?_
  rintro y5 w5 ⟨hw5, t0, t7, t9, t10⟩
  rw [hw5]
  clear hw5 w5
  refine hK5.out _ _ ?_
  have u0 := t0.trans s0
  have u7 := t7.trans s7
  have u9 := t9.trans s9
  have u10 := t10.trans s10
  clear s0 s7 s9 s10 s11 s6 t0 t7 t9 t10
  obtain ⟨bo, hbo⟩ : ∃ bo, bo = decide (i = l.r ∧ room = true) := ⟨_, rfl⟩
  rw [← hbo] at u10
  have HBo := hid hbo
  clear hbo
  obtain ⟨G2, hG2⟩ : ∃ G2, G2 = gateL (arrive l i room) := ⟨_, rfl⟩
  rw [← hG2] at HD4
  have HG2 := hid hG2
  clear hG2
  rw [fr68]
  simp only [u0, u7, u9, u10]
  clear u0 u7 u9 u10
  have l0 : W4.cell? ⟨L, 12, none⟩ = some (.int .i64 s.g.cr) := by rw [cell_of_row _ _ _ _ _ _ HM4.out.bx]; rfl
  have l1 : W4.cell? ⟨L, 13, none⟩ = some (.int .i64 s.g.nx) := by rw [cell_of_row _ _ _ _ _ _ HM4.out.bx]; rfl
  have l2 : W4.cell? ⟨L, 14, none⟩ = some (.int .i64 s.g.hf) := by rw [cell_of_row _ _ _ _ _ _ HM4.out.bx]; rfl
  have l3 : W4.cell? ⟨L, 15, none⟩ = some (.bool s.g.sh) := by rw [cell_of_row _ _ _ _ _ _ HM4.out.bx]; rfl
  have l4 : W4.cell? ⟨L, 16, none⟩ = some (.bool s.g.wa) := by rw [cell_of_row _ _ _ _ _ _ HM4.out.bx]; rfl
  have l5 : W4.cell? ⟨L, 17, none⟩ = some (.bool s.g.ag) := by rw [cell_of_row _ _ _ _ _ _ HM4.out.bx]; rfl
  have l6 : W4.cell? ⟨L, 18, none⟩ = some (.int .i64 s.g.ct) := by rw [cell_of_row _ _ _ _ _ _ HM4.out.bx]; rfl
  have d0 : W4.cell? ⟨D, 0, none⟩ = some (.int .i64 G2.cr) := by rw [cell_of_row _ _ _ _ _ _ HD4.out]; rfl
  have d1 : W4.cell? ⟨D, 1, none⟩ = some (.int .i64 G2.nx) := by rw [cell_of_row _ _ _ _ _ _ HD4.out]; rfl
  have d2 : W4.cell? ⟨D, 2, none⟩ = some (.int .i64 G2.hf) := by rw [cell_of_row _ _ _ _ _ _ HD4.out]; rfl
  have d3 : W4.cell? ⟨D, 3, none⟩ = some (.bool G2.sh) := by rw [cell_of_row _ _ _ _ _ _ HD4.out]; rfl
  have d4 : W4.cell? ⟨D, 4, none⟩ = some (.bool G2.wa) := by rw [cell_of_row _ _ _ _ _ _ HD4.out]; rfl
  have d5 : W4.cell? ⟨D, 5, none⟩ = some (.bool G2.ag) := by rw [cell_of_row _ _ _ _ _ _ HD4.out]; rfl
  have d6 : W4.cell? ⟨D, 6, none⟩ = some (.int .i64 G2.ct) := by rw [cell_of_row _ _ _ _ _ _ HD4.out]; rfl
  have fz := frozen_row HM4.out.bx
  obtain ⟨m1, m2⟩ := HM4.out.gate G2
  have HM5 := hid m1
  have HO5 := hid (row_grown HO4.out m2 (ne_tt HO4.out HM4.out.bx (by decide)))
  have HB5 := hid (HB4.out.grown m2 (Nat.le_trans HlB.out HB4.out.size) (fun k e => by cases e; exact hB))
  have HK5 := hid (HK4.out.grown m2 (row_type HM4.out.bx (by decide)))
  have Hdr5 := hid (Hdr4.out.grown m2 (fun b off _ h e => by
    have h2 := Hfar.out b off h
    injection e with e1
    omega))
  clear m1 m2 HM4 HO4 HB4 Hdr4
  refine wp_seq_k (fun K6 hK6 => ?_)
  go_wp2_with fail
  refine hK6.out _ _ ?_
  clear l0 l1 l2 l3 l4 l5 l6 d0 d1 d2 d3 d4 d5 d6 fz HD4
  generalize ((((((W4.setCell ⟨L, 12, none⟩ (.int .i64 G2.cr)).setCell ⟨L, 13, none⟩ (.int .i64 G2.nx)).setCell ⟨L, 14, none⟩ (.int .i64 G2.hf)).setCell ⟨L, 15, none⟩ (.bool G2.sh)).setCell ⟨L, 16, none⟩ (.bool G2.wa)).setCell ⟨L, 17, none⟩ (.bool G2.ag)).setCell ⟨L, 18, none⟩ (.int .i64 G2.ct) = W5 at *
  refine wp_seq_k (fun K7 hK7 => ?_)
  refine wp_seq_k (fun K8 hK8 => ?_)
  go_wp2_with fail
  refine hK8.out _ _ ?_
  by_cases hac : i = l.r ∧ room = true
  · have hb1 : bo = true := by rw [HBo.out]; exact decide_eq_true hac
    rw [hb1]
    have Hac := hid hac
    clear hac hb1
    refine wp_cond_true rfl ?_
    have hdn : s.dn ≤ 100 := by rw [Hdn.out]; exact hr
    refine wp_region_late [13] [9, 10, 13] [(true, [0, 1, 2, 3, 4, 5, 6, 7, 8, 9, 10]), (false, [11, 12, 13])] (fun u u' => u.grownBy u' s.dv.ownBlock) (fun _ _ => True) (fun _ => World.grownBy.refl _ _) (fun _ _ _ h k => grownBy_trans h k) (fun _ => trivial) (fun _ _ _ _ _ => trivial) (fun _ _ _ => trivial) (by kernel_rfl) (by kernel_rfl) ?_
    simp only [wpPh, List.map_cons, List.map_nil, List.contains_cons, List.contains_nil, List.getD_cons_zero, List.getD_cons_succ, Nat.reduceBEq, Bool.or_false, Bool.or_true]
    have HMU := hid (HM5.out.below ((Below.refl _ W5).drew))
    have HBU := hid (HB5.out.trans ((Below.refl B W5).drew))
    have HKU := hid (HK5.out.below ((Below.refl _ W5).drew))
    have HOU : Hid (W5.drew.heap[O]? = _) := HO5
    have HdrU := hid (Hdr5.out.below ((Below.refl _ W5).drew))
    clear HM5 HB5 HO5 Hdr5
    generalize W5.drew = U at *
    have hLq : s.dv.ownBlock ≠ some L := at_type HMU.out.lr.dO (T' := 44) (by decide) L _ HMU.out.bx
    have hOq : s.dv.ownBlock ≠ some O := at_type HMU.out.lr.dO (T' := 33) (by decide) O _ HOU.out
    obtain ⟨b, off, rfl, hbl, hc⟩ := HdrU.out.mem (by decide)
    have hc0 := hc 0 (by decide)
    rw [Nat.add_zero] at hc0
    have hc1 : U.cell? ⟨b, off, none⟩ = some (.int .u8 (i : Int)) := hc0
    have hbd : s.dv.ownBlock ≠ some b := by
      rcases Hdl.out with h | h
      · rw [h]; exact fun e => by cases e
      · exact h b off rfl
    have g4 : ∀ w', U.grownBy w' s.dv.ownBlock → w'.cell? ⟨L, 21, none⟩ = some (.slice s.da s.dn s.dc) := fun w' h => by rw [cell_of_row _ _ _ _ _ _ ((h.block L (row_lt HMU.out.bx) (fun e => hLq e.symm)).trans HMU.out.bx)]; rfl
    have o4 : ∀ w', U.grownBy w' s.dv.ownBlock → w'.cell? ⟨O, 4, none⟩ = some (.slice (some ⟨b, off, none⟩) 1 cc) := fun w' h => by rw [cell_of_row _ _ _ _ _ _ ((h.block O (row_lt HOU.out) (fun e => hOq e.symm)).trans HOU.out)]; rfl
    have b4 : ∀ w', U.grownBy w' s.dv.ownBlock → w'.cell? ⟨b, off, none⟩ = some (.int .u8 (i : Int)) := fun w' h => (World.cell?_of_block (w := U) (a := ⟨b, off, none⟩) (h.block b hbl (fun e => hbd e.symm))).trans hc1
    clear hc hc0 hc1
    iterate 9 (refine wpL_do rfl (fun w' hw' => (by go_simp; rfl)) ?_; simp only [Act.put, List.setIfInBounds_toArray, List.set_cons_succ, List.set_cons_zero])
    clear g4 o4 b4
    have b6 := below_alloc U (.cells #[.int .u8 (i : Int)] 5)
    have hy := heap_alloc_new U (.cells #[.int .u8 (i : Int)] 5)
    refine wpL_call rfl (fun K hK => ?_)
    go_wp2_with fail
    refine hK _ _ (grownBy_of_below b6 _) ?_
    clear hK K
    try simp only [Act.put, List.setIfInBounds_toArray, List.set_cons_succ, List.set_cons_zero]
    have HM6 := hid (HMU.out.below b6)
    have HB6 := hid (HBU.out.trans (b6.mono (Nat.le_trans HlB.out HBU.out.size)))
    have HK6 := hid (HKU.out.below b6)
    obtain ⟨N1, hN1⟩ : ∃ N1, N1 = U.heap.size := ⟨_, rfl⟩
    rw [← hN1] at hy ⊢
    clear hN1 b6 HMU HBU HOU HdrU
    generalize U.alloc (.cells #[.int .u8 (i : Int)] 5) = U2 at *
    have hy0 : U2.cell? ⟨N1, 0, none⟩ = some (.int .u8 (i : Int)) := by rw [cell_of_row _ _ _ _ _ _ hy]; rfl
    have hB2 : B ≤ U2.heap.size := Nat.le_trans hB (Nat.le_of_lt (row_lt HM6.out.bx))
    refine wpL_call rfl (fun K hK => ?_)
    refine wp_append_at (.tmp 59) (.tmp 64) 31 rfl B 5 i0 (.int .u8 0) 1 Try.underlying31 hi0 hz0 hz1 hz2 rfl (.slice s.da s.dn s.dc) s.dn (vb s.ds) rfl HM6.out.lr.dO ⟨N1, 0, none⟩ (.int .u8 (i : Int)) rfl hy0 rfl (by unfold maxLen; omega) (by omega) hB2 ?_
    intro v' U3 o3 g3 hw3
    obtain ⟨va, vc, rfl, _, _⟩ := o3.form
    refine hK _ _ g3 ?_
    clear hK K
    try simp only [Act.put, List.setIfInBounds_toArray, List.set_cons_succ, List.set_cons_zero]
    have hLR := HM6.out.lr.dapp (d := i) o3 g3 hw3 (fun r hr => by have := ones_len HP.out.H.S r hr; omega) (fun r hr => by have := ones_len HP.out.H.Q r hr; omega) (cmds_pos HP.out.W) (cmds_pos HP.out.O)
    have HLR := hid hLR
    have HX3 := hid ((g3.block L (row_lt HM6.out.bx) (fun e => hLq e.symm)).trans HM6.out.bx)
    have HB3 := hid (HB6.out.grown g3 hB2 (fun k hk => (HM6.out.lr.dO.lt k hk).1))
    have HK3 := hid (HK6.out.grown g3 (at_type HM6.out.lr.dO (by decide)))
    clear o3 g3 hw3 HM6 HB6 hy hy0 hLR
    refine wpL_nil ?_
    iterate 2 (refine wpL_do rfl (fun w' hw' => (by go_simp; rfl)) ?_; simp only [Act.put, List.setIfInBounds_toArray, List.set_cons_succ, List.set_cons_zero])
    have x4 : U3.cell? ⟨L, 21, none⟩ = some (.slice s.da s.dn s.dc) := by rw [cell_of_row _ _ _ _ _ _ HX3.out]; rfl
    have fz := frozen_row HX3.out 21
    obtain ⟨s1, s2⟩ := set_row (cs' := LS.cells { s with g := G2, da := va, dn := s.dn + 1, dc := vc, ds := s.ds ++ [i] }) HX3.out 21 (.slice va (s.dn + 1) vc) rfl
    have H7 : Hid (LM (U3.setCell ⟨L, 21, none⟩ (.slice va (s.dn + 1) vc)) L B { s with g := G2, da := va, dn := s.dn + 1, dc := vc, ds := s.ds ++ [i] }) := ⟨s1, HLR.out.other s2 HX3.out (by decide) (by decide)⟩
    have HB7 := hid (HB3.out.grown s2 (Nat.le_trans hB (Nat.le_of_lt (row_lt HX3.out))) (fun k e => by cases e; exact hB))
    have HK7 := hid (HK3.out.grown s2 (row_type HX3.out (by decide)))
    clear s1 s2 HLR HX3 HB3
    refine wpL_call rfl (fun K hK => ?_)
    go_wp2_with fail
    refine hK _ _ trivial ?_
    clear hK K x4 fz
    try simp only [Act.put, List.setIfInBounds_toArray, List.set_cons_succ, List.set_cons_zero]
    refine wpL_nil ?_
    refine hK7.out _ _ ?_
    generalize U3.setCell ⟨L, 21, none⟩ (.slice va (s.dn + 1) vc) = U4 at *
    go_wp2_with fail
    go_ret
    have hrr := arrive_r l i room
    rw [if_pos Hac.out] at hrr
    refine ⟨rfl, ⟨_, H7.out, HP.out.arr i room rfl rfl rfl HG2.out ?_ rfl rfl rfl⟩, HB7.out, HK7.out⟩
    show s.ds ++ [i] = _
    rw [hrr, HP.out.d, List.range_succ, Hac.out.1]
  · have hb1 : bo = false := by rw [HBo.out]; exact decide_eq_false hac
    rw [hb1]
    have Hac := hid hac
    clear hac hb1
    refine wp_cond_false rfl ?_
    go_wp2_with fail
    refine hK7.out _ _ ?_
    go_wp2_with fail
    go_ret
    have hrr := arrive_r l i room
    rw [if_neg Hac.out] at hrr
    exact ⟨rfl, ⟨_, HM5.out, HP.out.arr i room rfl rfl rfl HG2.out (by rw [hrr]; exact HP.out.d) rfl rfl rfl⟩, HB5.out, HK5.out⟩
end Go.Proofs.Ytkngoomkmbkenaa
/- All that was done was done in its order: inOrder. -/
namespace Go.Proofs.Ytkngoomkmbkenaa
set_option linter.unusedVariables false
open Go.RowKit

set_option maxRecDepth 1000000 in
theorem fr33 (y : Nat → Value) : fr 33 y = #[y 0, y 1, y 2, y 3, y 4, y 5, y 6, y 7, y 8, y 9, y 10, y 11, y 12, y 13, y 14, y 15, y 16, y 17, y 18, y 19, y 20, y 21, y 22, y 23, y 24, y 25, y 26, y 27, y 28, y 29, y 30, y 31, y 32] := rfl
def OrI (W0 : World) (L n : Nat) (y : Nat → Value) (W : World) : Prop := ∃ k : Nat, k ≤ n ∧ y 0 = .pointer (some ⟨L, 0, none⟩) ∧ y 3 = .int .i64 (k : Int) ∧ W = W0
theorem range_nth (n k : Nat) (h : k < n) : (vb (List.range n))[k]? = some (.int .u8 (k : Int)) := by
  unfold vb
  rw [List.getElem?_map, List.getElem?_range h]
  rfl
set_option maxRecDepth 1000000 in
set_option maxHeartbeats 4000000 in
theorem order_ok (ah pt pz L B : Nat) (s : LS) (l : LK) (w : World) (hM : LM w L B s) (hP : LP ah pt pz s l) (hr : l.r ≤ l.h.A) (hA : l.h.A ≤ 100) :
    Calls Try.prog 28 #[.pointer (some ⟨L, 0, none⟩)] w fun e w' => e = .returned (.bool true) ∧ Below w.heap.size w w' := by
  have hdn := hP.dn hM.lr
  have hds := hP.d
  have hsA := hP.A
  have hd := hM.lr.dO
  have HM := hid hM
  have hn : s.dn ≤ s.A := by omega
  have hn1 : s.dn ≤ 100 := by omega
  rw [hds, ← hdn] at hd
  have HDO := hid hd
  have x21 : w.cell? ⟨L, 21, none⟩ = some (.slice s.da s.dn s.dc) := by rw [cell_of_row _ _ _ _ _ _ hM.bx]; rfl
  clear hM hP hd hdn hds hsA
  go_enter Try.func28, Try.ntmps28
  refine wp_seq_k (fun K0 hK0 => ?_)
  go_wp2_with fail
  refine hK0.out _ _ ?_
  refine wp_seq_k (fun K1 hK1 => ?_)
  refine wp_seq_k (fun K2 hK2 => ?_)
  go_wp2_with fail
  refine hK2.out _ _ ?_
  refine wp_block ?_
  refine wp_loop_fr 33 (OrI w L s.dn) (fun y' _ => s.dn - (intOf (y' 3)).toNat) ⟨rfl, rfl, 0, Nat.zero_le _, rfl, rfl, rfl⟩ ?_
  rintro z W ⟨k, hk, s0, s3, hW⟩
  rw [hW]
  clear hW W
  rw [fr33]
  simp only [s0, s3]
  clear s0 s3
  by_cases hlt : k < s.dn
  · have d1 : decide ((k : Int) < (s.dn : Int)) = true := decide_eq_true (by omega)
    have hkI : (k : Int) < (s.dn : Int) := by omega
    obtain ⟨g, o, cap, hv, _, hgl, hc⟩ := HDO.out.at_ (by omega)
    unfold LS.dv at hv
    injection hv with e1 e2 e3
    have hck : w.cell? ⟨g, o + k, none⟩ = some (.int .u8 (k : Int)) := (hc k hlt).1.trans (range_nth _ _ hlt)
    rw [e1] at x21
    have w1 : IntKind.i64.wrap (k : Int) = (k : Int) := IntWalk.i64_in _ (by omega)
    clear hc e1 e2 e3
    go_upto_block 1 with (fail)
    refine wp_block ?_
    go_wp2_with fail
    refine ⟨rfl, rfl, ⟨k + 1, by omega, rfl, ?_, rfl⟩, ?_⟩
    · show Value.int .i64 _ = Value.int .i64 _
      go_num
    · show s.dn - (intOf (Value.int .i64 _)).toNat < _
      simp [intOf]
      omega
  · have hke : k = s.dn := by omega
    have d1 : decide ((k : Int) < (s.dn : Int)) = false := decide_eq_false (by omega)
    have hkI : ¬ (k : Int) < (s.dn : Int) := by omega
    clear hke
    go_wp2_with fail
    refine hK1.out _ _ ?_
    clear x21
    refine wp_seq_k (fun K3 hK3 => ?_)
    refine wp_region_can_all [] [0, 1, 2, 3, 4, 5, 6, 7, 8, 9, 10] (fun u u' => u' = u) (fun u => rfl) (fun _ _ _ h k => Eq.trans k h) (by kernel_rfl) (by kernel_rfl) ?_
    simp only [List.map_cons, List.map_nil, List.contains_nil, List.getD_cons_zero, List.getD_cons_succ]
    have HMU := hid (HM.out.below ((Below.refl _ w).drew))
    have HBU := hid ((Below.refl w.heap.size w).drew)
    generalize w.drew = U at *
    have x21 : ∀ w', w' = U → w'.cell? ⟨L, 21, none⟩ = some (.slice s.da s.dn s.dc) := fun w' h => by rw [h, cell_of_row _ _ _ _ _ _ HMU.out.bx]; rfl
    have x22 : ∀ w', w' = U → w'.cell? ⟨L, 22, none⟩ = some (.int .i64 (s.A : Int)) := fun w' h => by rw [h, cell_of_row _ _ _ _ _ _ HMU.out.bx]; rfl
    have dle : decide ((s.dn : Int) ≤ (s.A : Int)) = true := decide_eq_true (by omega)
    iterate 11 (refine wpL_do rfl (fun w' hw' => (by go_simp; rfl)) ?_; simp only [Act.put, List.setIfInBounds_toArray, List.set_cons_succ, List.set_cons_zero])
    refine wpL_nil ?_
    refine hK3.out _ _ ?_
    clear x21 x22
    go_wp2_with fail
    go_ret
    exact ⟨rfl, HBU.out⟩
end Go.Proofs.Ytkngoomkmbkenaa
