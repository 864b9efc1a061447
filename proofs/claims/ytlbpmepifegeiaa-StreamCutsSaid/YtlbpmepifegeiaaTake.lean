/- Stream: Take. -/
import Derived.Test.YtlbpmepifegeiaaTakeE
import Derived.Test.YtlbpmepifegeiaaRegionL
namespace Go.Proofs.Ytlbpmepifegeiaa
set_option linter.unusedVariables false
set_option linter.unusedSimpArgs false
open Go.RowKit

set_option maxRecDepth 100000 in
set_option maxHeartbeats 4000000 in
theorem take_ok (B0 sb : Nat) (s : SyV) (B : List Nat) (W : World) (h : SyIn W sb s B) (hi : MInv (rl s) B s.base 0 (core s)) (hB0 : B0 ≤ W.heap.size) (hf : s.fa = none ∧ s.fn = 0 ∧ s.fc = 0)
    (pa : Option Addr) (pn pc : Nat) (ps : List Nat) (hp : Rd W pa pn pc (vb ps)) (hpb : AllB ps) (hpk : 0 < pn → ∀ b off, pa = some ⟨b, off, none⟩ → ¬ SyB s sb b) (hbig : B.length + pn ≤ 140737488351232) :
    Calls Try.prog 11 #[.pointer (some ⟨sb, 0, none⟩), .slice pa pn pc] W fun e w' => ∃ lb, TakeP sb s B ps W w' lb e := by
  obtain ⟨i0, hi0, hz0, hz1, hz2⟩ := info_parts Try.info5
  have hpl : ps.length = pn := by have := hp.len; rwa [vb_len] at this
  have Hpl := hid hpl
  clear hpl
  go_enter Try.func11, Try.ntmps11
  go_wp2_with fail
  go_loopw [11] (fun i wr => ∃ (k : Nat) (s1 : SyV), i = .int .i64 (k : Int) ∧ k ≤ pn ∧ (∃ ba bc, s1 = { s with ba := ba, bn := s.bn + k, bc := bc }) ∧ SyIn wr sb s1 (B ++ par (ps.take k)) ∧ TakeI B0 sb s W wr s1) (fun i _ => pn - (intOf i).toNat)
  case atStart => exact ⟨0, s, rfl, Nat.zero_le _, ⟨s.ba, s.bc, rfl⟩, by simpa [par] using h, ⟨KeptP.refl _ _, fun k hk => .inl hk, fun k hk => by rw [hf.1] at hk; simp [Value.ownBlock] at hk⟩⟩
  case round =>
    obtain ⟨k, s1, rfl, hk, ⟨ba, bc, rfl⟩, hS, hT⟩ := hrel
    by_cases hlt : k < pn
    · have t1 : (k : Int) < (pn : Int) := by omega
      obtain ⟨pb, po, hpa, _, hcell⟩ := hp.cell k hlt
      have hcell : wr.cell? ⟨pb, po + k, none⟩ = some (.int .u8 (nth ps k : Nat)) := (World.cell?_of_block (w := W) (a := ⟨pb, po + k, none⟩) (hT.kept.block pb (hp.block_lt (by omega) hpa) (hpk (by omega) pb po hpa))).trans hcell
      subst hpa
      have hx := nth_lt hpb k
      have e1 := u8_and1 (nth ps k) hx
      have htk : par (ps.take (k + 1)) = par (ps.take k) ++ [nth ps k % 2] := by unfold par; rw [take_snocN _ _ (by rw [Hpl.out]; exact hlt), List.map_append]; rfl
      have HT := hid htk
      clear htk
      have hz2' : nth ps k % 2 < 2 := Nat.mod_lt _ (by decide)
      generalize nth ps k = x at *
      generalize x % 2 = z at *
      have cb := hS.at_.cb
      dsimp only at cb
      go_wp2_with (at_builtin; refine hold ?_)
      unfold Hid
      have g7 := below_alloc wr (.cells #[.int .u8 (z : Int)] 5)
      have hS7 := hS.below g7
      have o7 : (wr.alloc (.cells #[.int .u8 (z : Int)] 5)).ownsRow 0 5 1 (.slice ba (s.bn + k) bc) (s.bn + k) (vb ((B ++ par (ps.take k)).drop s.base)) := hS7.own
      have hlen : s.base + (s.bn + k) = (B ++ par (ps.take k)).length := hS.len
      have hlenB := h.len
      refine wpList_append_wide_at rfl _ _ 24 rfl 0 5 i0 _ 1 1 Try.underlying24 hi0 hz0 hz1 hz2 rfl (by decide) (.slice ba (s.bn + k) bc) (s.bn + k) (vb ((B ++ par (ps.take k)).drop s.base)) rfl o7 ⟨wr.heap.size, 0, none⟩ 1 1 (vb [z]) rfl rfl (one_new _ _ _) (vb_oneCell _) (by unfold maxLen; omega) (by omega) (Nat.zero_le _) ?_
      intro v' V8 oV gV hat
      obtain ⟨va', vc', rfl, _, _⟩ := own_slice oV
      have edrop : (B ++ par (ps.take (k + 1))).drop s.base = (B ++ par (ps.take k)).drop s.base ++ [z] := by
        rw [HT.out, ← List.append_assoc, List.drop_append_of_le_length (by omega)]
      rw [← vb_append, ← edrop] at oV
      have hat8 : SyAt V8 sb { s with ba := ba, bn := s.bn + k, bc := bc } := by
        refine (gV.block sb hS7.at_.lt (fun e => ?_)).trans hS7.at_
        rcases own_ne o7 (show (wr.alloc (.cells #[.int .u8 (z : Int)] 5)).heap[sb]? = _ from hS7.at_) (by decide) with h1 | h1
        · rw [h1] at e; cases e
        · exact h1 e.symm
      have f4 := hat8.frozen 4
      obtain ⟨hat9, g9⟩ := hat8.put 4 (.slice va' (s.bn + k + 1) vc') { s with ba := va', bn := s.bn + (k + 1), bc := vc' } rfl
      have oV9 := oV.kept g9 (own_ne oV (show V8.heap[sb]? = _ from hat8) (by decide))
      have hlen9 : s.base + (s.bn + (k + 1)) = (B ++ par (ps.take (k + 1))).length := by
        rw [HT.out]; simp only [List.length_append, List.length_singleton] at hlen ⊢; omega
      have hone : All1 (B ++ par (ps.take (k + 1))) := h.one.append (par_1 _)
      have hbig9 : (B ++ par (ps.take (k + 1))).length ≤ 140737488351232 := by
        simp only [List.length_append, par, List.length_map, List.length_take]; omega
      have hS9 : SyIn _ sb { s with ba := va', bn := s.bn + (k + 1), bc := vc' } (B ++ par (ps.take (k + 1))) := ⟨hat9, oV9, hlen9, hone, hbig9, h.rF, h.rH, h.rM, h.rL, h.rmi⟩
      have hkept : KeptP (SyB s sb) W _ := ((hT.kept.trans (KeptP.below (S := fun _ => False) g7) (fun i _ hi => hi.elim)).trans (KeptP.grown (S := fun i => (Value.slice ba (s.bn + k) bc).ownBlock = some i) gV (fun r hr => hr)) (fun i hi1 hi2 => by
          rcases hT.bw i hi2 with h1 | h1
          · exact .inr h1
          · omega)).trans (KeptP.grown (S := fun i => i = sb) g9 (fun r hr => by cases hr; rfl)) (fun i _ hi => .inl hi)
      have hT9 : TakeI B0 sb s W _ { s with ba := va', bn := s.bn + (k + 1), bc := vc' } := ⟨hkept, fun i hi2 => by
          rcases hat with h1 | h1
          · exact hT.bw i (by rw [← h1]; exact hi2)
          · right
            have hi3 : (Value.slice va' (s.bn + k + 1) vc').ownBlock = some i := hi2
            rw [h1] at hi3
            cases hi3
            exact Nat.le_trans hT.kept.size g7.size, hT.fw⟩
      obtain ⟨V9, hV9⟩ : ∃ V9, V9 = V8.setCell ⟨sb, 4, none⟩ (.slice va' (s.bn + k + 1) vc') := ⟨_, rfl⟩
      rw [← hV9] at hS9 hT9
      have hV9' := hV9.symm
      clear hV9 g7 gV g9 oV oV9 hat9 hkept hS7 o7 hat edrop hlen hlen9 hone
      have c4 := hat8.cb
      dsimp only at c4
      go_wp2_with fail
      go_roundw
      case rel => exact ⟨k + 1, _, by go_num, by omega, ⟨va', vc', rfl⟩, hS9, hT9⟩
      case measure => simp [intOf]; omega
    · obtain rfl : k = pn := by omega
      rw [List.take_of_length_le (by rw [Hpl.out]; exact Nat.le_refl _)] at hS
      obtain ⟨C, hC⟩ : ∃ C, C = B ++ par ps := ⟨_, rfl⟩
      have hBC : B.length ≤ C.length := by rw [hC]; simp
      rw [← hC] at hS
      have HC := hid hC
      have hiC := hi.more hBC
      clear hlt hBC
      go_upto_region 7 with fail
      go_loopw [] (fun wr => ∃ (s2 : SyV) (F : List Fd), SyIn wr sb s2 C ∧ rl s2 = rl s ∧ s2.ba = ba ∧ s2.bn = s.bn + k ∧ s2.bc = bc ∧ s2.base = s.base ∧ Steps (rl s) C (core s) (F.map Fd.fo) (core s2) ∧ MInv (rl s) C s.base s2.fn (core s2) ∧ wr.ownsRow W.heap.size 35 4 (.slice s2.fa s2.fn s2.fc) s2.fn (fcs F) ∧ s2.fn = F.length ∧ (∀ f ∈ F, f.In wr W.heap.size) ∧ TakeI B0 sb s W wr s2) (fun wr => muW C sb wr)
      case atStart => exact ⟨_, [], hS, rfl, rfl, rfl, rfl, rfl, Steps.nil _, by rw [show ({ s with ba := ba, bn := s.bn + k, bc := bc } : SyV).fn = 0 from hf.2.1]; exact hiC, by
        obtain ⟨h1, h2, h3⟩ := hf
        show World.ownsRow _ _ _ _ (.slice s.fa s.fn s.fc) s.fn _
        rw [h1, h2, h3]; exact World.ownsRow_nil _ _ _ _, hf.2.1, (fun f hf => nomatch hf), hT⟩
      case round =>
        clear hS hT
        obtain ⟨s2, F, hS, x1, x2, x3, x4, x5, hSt, hM, hF, hFn, hFi, hT⟩ := hrel
        have c9 := hS.at_.cst
        have hstep := step_ok W.heap.size sb s2 C F wr hS (by rw [x1, x5]; exact hM) hT.kept.size hF
        have Hmu := hid (muW_eq C hS.at_)
        have hst3 : s2.st = 15 ∨ s2.st = 24 ∨ s2.st = 29 := hM.st
        rcases hst3 with hst | hst | hst
        all_goals
          rw [hst] at c9 hstep
          go_wp2_with fail
          refine hstep.mono ?_
          clear hstep
          rintro e w2 ⟨⟨s3, F', hS3, y1, y2, y3, y4, y5, hSt3, hM3, hF3, hFn3, hFi3, hw3, hcase⟩, hk3⟩
          have hT3 : TakeI B0 sb s W w2 s3 := ⟨hT.kept.trans hk3 (fun i hi1 hi2 => by
            rcases hi2 with h1 | h1
            · exact .inl h1
            · have := hT.fw i h1; omega), fun i hi1 => hT.bw i (by rw [← y2, ← y3, ← y4]; exact hi1), fun i hi1 => by
            rcases hw3 i hi1 with h1 | h1
            · exact hT.fw i h1
            · exact Nat.le_trans hT.kept.size h1⟩
          have hFi4 : ∀ f ∈ F ++ F', f.In w2 W.heap.size := fun f hf => by
            rcases List.mem_append.1 hf with h1 | h1
            · exact (hFi f h1).kept hS.at_ hF hk3
            · exact ⟨ownsRow_mono (hFi3 f h1).1 hT.kept.size, (hFi3 f h1).2⟩
          have hSt4 : Steps (rl s) C (core s) ((F ++ F').map Fd.fo) (core s3) := by
            rw [List.map_append]
            rw [x1] at hSt3
            exact hSt.trans hSt3
          rw [x1, x5] at hM3
          have hFn4 : s3.fn = (F ++ F').length := by rw [List.length_append, hFn3, hFn]
          rcases hcase with ⟨rfl, hmu⟩ | ⟨rfl, hstuck⟩
          · go_wp2_with fail
            go_roundw
            case rel => exact ⟨s3, F ++ F', hS3, y1.trans x1, y2.trans x2, y3.trans x3, y4.trans x4, y5.trans x5, hSt4, hM3, hF3, hFn4, hFi4, hT3⟩
            case measure => rw [Hmu.out, muW_eq C hS3.at_]; exact hmu
          · have cf3 := hS3.at_.cf
            have b1 := below_alloc w2 (.cells #[.slice s3.fa s3.fn s3.fc] 33)
            have hS4 := hS3.below b1
            have cf4 := hS4.at_.cf
            have f410 := hS4.at_.frozen 10
            have hL := takeL_mk hS3 (y1.trans x1) ⟨hSt4, by rw [← x1]; exact hstuck⟩ (by rw [y5.trans x5]; exact hM3) hF3 hFn4 hFi4 hT3.kept hT3.bw
            rw [HC.out] at hL
            have c3 := hL.sy.at_.cpos
            have c2 := hL.sy.at_.cbase
            have c1 := hL.sy.at_.cb
            dsimp only at c1 c2 c3
            clear hS hSt hM hF hFi hT hS3 hSt3 hM3 hF3 hFi3 hT3 hFi4 hSt4 hk3 hw3 hstuck Hmu hFn hFn3 hFn4 b1 hS4 x1 x2 x3 x4 x5 y1 y2 y3 y4 y5
            obtain ⟨W4, hW4⟩ : ∃ W4, W4 = (w2.alloc (.cells #[.slice s3.fa s3.fn s3.fc] 33)).setCell ⟨sb, 10, none⟩ (.slice none 0 0) := ⟨_, rfl⟩
            rw [← hW4] at hL c1 c2 c3
            have hW4' := hW4.symm
            clear hW4
            go_upto_region 9 with fail
            have hba : s3.base ≤ s3.pos := hL.inv.ba
            have hpl : s3.pos ≤ (B ++ par ps).length := hL.inv.le
            have hlb : s3.base + s3.bn = (B ++ par ps).length := hL.sy.len
            have hCb : (B ++ par ps).length ≤ 140737488351232 := hL.sy.big
            have e1 : IntKind.i64.wrap ((s3.pos : Int) - 1) = (s3.pos : Int) - 1 := IntWalk.i64_in _ (by omega)
            by_cases hold : s3.base + 1 < s3.pos
            · obtain ⟨o, ho⟩ : ∃ o, s3.base + o + 1 = s3.pos := ⟨s3.pos - s3.base - 1, by omega⟩
              have e2 : (s3.pos : Int) - 1 - (s3.base : Int) = (o : Int) := by omega
              have e3 : IntKind.i64.wrap (o : Int) = (o : Int) := IntWalk.i64_in _ (by omega)
              have t1 : (0 : Int) < (o : Int) := by omega
              have t0 : 0 < o := by omega
              have ho2 : o ≤ s3.bn := by omega
              obtain ⟨q, hq⟩ : ∃ q, q = s3.base + o := ⟨_, rfl⟩
              have e4 : (s3.base : Int) + (o : Int) = (q : Int) := by omega
              have e5 : IntKind.i64.wrap (q : Int) = (q : Int) := IntWalk.i64_in _ (by omega)
              have Hq := hid hq
              clear hq
              have Ho := hid (⟨ho, hlb, hCb⟩ : s3.base + o + 1 = s3.pos ∧ s3.base + s3.bn = (B ++ par ps).length ∧ (B ++ par ps).length ≤ 140737488351232)
              clear hba hpl hlb hCb hold ho
              go_quiet (fail)
              go_wp2_with fail
              have bV : Below W4.heap.size W4 (W4.drewN nq) := below_drewN _ _
              generalize W4.drewN nq = V at *
              have a4 := (hL.sy.below bV).at_
              have hrd := hL.sy.rd
              dsimp only at hrd
              have hob : o < s3.bn := by have := Ho.out; have := hL.inv.le; have h9 : (core s3).pos = s3.pos := rfl; omega
              obtain ⟨bb, bo, hba, _, _⟩ := hrd.mem (by omega)
              have hle := hrd.le
              have hx := hrd
              rw [hba] at hx
              have hx := hx.sub o (s3.bn - o) (by omega)
              have hxe : (((B ++ par ps).drop s3.base).drop o).take (s3.bn - o) = ((B ++ par ps).drop s3.base).drop o := List.take_of_length_le (by rw [List.length_drop, List.length_drop]; have := Ho.out; omega)
              rw [hxe] at hx
              have e6 : (0 : Int) ≤ (o : Int) := by omega
              have e7 : (o : Int) ≤ (s3.bn : Int) := by omega
              have e8 : ¬ s3.bc = o := by omega
              have Hob := hid hob
              have hnb : s3.bn - o ≤ 140737488355328 := by have := Ho.out; omega
              clear hrd hxe hob hle
              have n4 : ∀ w', Below W4.heap.size V.drew w' → w'.cell? ⟨sb, 4, none⟩ = some (.slice (some ⟨bb, bo, none⟩) s3.bn s3.bc) := fun w' hw => by rw [← hba]; exact (hw.cell (p := ⟨sb, 4, none⟩) hL.sy.at_.lt).trans a4.cb
              have n5 : ∀ w', Below W4.heap.size V.drew w' → w'.cell? ⟨sb, 5, none⟩ = some (.int .i64 (s3.base : Int)) := fun w' hw => (hw.cell (p := ⟨sb, 5, none⟩) hL.sy.at_.lt).trans a4.cbase
              have Hba := hid hba
              clear hba
              refine wp_region_late [17, 20] [8, 17, 20] [(false, [1, 9, 10, 11, 13]), (true, [0, 2, 3, 4, 5, 6, 7, 12]), (false, [14]), (true, [8]), (false, [15, 16, 17, 18, 19, 20])] (Below W4.heap.size) (fun _ _ => True) (fun _ => Below.refl _ _) (fun _ _ _ h k => h.trans k) (fun _ => trivial) (fun _ _ _ _ _ => trivial) (fun _ _ _ => trivial) (by kernel_rfl) (by kernel_rfl) ?_
              simp only [wpPh, List.map_cons, List.map_nil, List.contains_cons, List.contains_nil, List.getD_cons_zero, List.getD_cons_succ, Nat.reduceBEq, Bool.or_false, Bool.or_true]
              repeat (refine wpL_do rfl (fun w' hw' => (by go_simp; rfl)) ?_; simp only [Act.put, List.setIfInBounds_toArray, List.set_cons_succ, List.set_cons_zero])
              try refine wpL_nil ?_
              repeat (refine wpL_do rfl (fun w' hw' => (by go_simp; rfl)) ?_; simp only [Act.put, List.setIfInBounds_toArray, List.set_cons_succ, List.set_cons_zero])
              try refine wpL_nil ?_
              repeat (refine wpL_do rfl (fun w' hw' => (by go_simp; rfl)) ?_; simp only [Act.put, List.setIfInBounds_toArray, List.set_cons_succ, List.set_cons_zero])
              try refine wpL_nil ?_
              refine wpL_call rfl (fun K hK => ?_)
              clear n4 n5 e1 e2 e6 e7 e8 t1
              go_wp2_with fail
              refine (clone_any (some ⟨bb, bo + o, none⟩) (s3.bn - o) (s3.bc - o) _ V.drew (hx.below bV.drew) hnb).mono ?_
              rintro e V2 ⟨ca, cc, rfl, oC, b2⟩
              refine hK _ _ (b2.mono bV.size) ?_
              clear hK K
              try simp only [Act.put, List.setIfInBounds_toArray, List.set_cons_succ, List.set_cons_zero]
              try refine wpL_nil ?_
              have b2 : Below W4.heap.size W4 V2 := bV.drew.trans (b2.mono bV.size)
              have oC : V2.ownsRow W4.heap.size 5 1 (.slice ca (s3.bn - o) cc) (s3.bn - o) (vb (((B ++ par ps).drop s3.base).drop o)) := ownsRow_mono oC bV.size
              have hS2 := hL.sy.below b2
              have d4 := hS2.at_.cb
              have d5 := hS2.at_.cbase
              have f4 := hS2.at_.frozen 4
              have f5 := hS2.at_.frozen 5
              repeat (refine wpL_do rfl (fun w' hw' => (by go_simp; rfl)) ?_; simp only [Act.put, List.setIfInBounds_toArray, List.set_cons_succ, List.set_cons_zero])
              refine wpL_call rfl (fun K hK => ?_)
              go_wp2_with fail
              refine hK _ _ trivial ?_
              clear hK K
              try simp only [Act.put, List.setIfInBounds_toArray, List.set_cons_succ, List.set_cons_zero]
              repeat (refine wpL_do rfl (fun w' hw' => (by go_simp; rfl)) ?_; simp only [Act.put, List.setIfInBounds_toArray, List.set_cons_succ, List.set_cons_zero])
              obtain ⟨h4', g4'⟩ := hS2.at_.put 4 (.slice ca (s3.bn - o) cc) { s3 with fa := none, fn := 0, fc := 0, ba := ca, bn := s3.bn - o, bc := cc } rfl
              have d5' := h4'.cbase
              have f5' := h4'.frozen 5
              refine wpL_call rfl (fun K hK => ?_)
              go_wp2_with fail
              refine hK _ _ trivial ?_
              clear hK K
              try simp only [Act.put, List.setIfInBounds_toArray, List.set_cons_succ, List.set_cons_zero]
              try refine wpL_nil ?_
              clear d4 d5 f4 f5 d5' f5' h4' g4' hS2
              go_wp2_with fail
              try refine onlyOn_normal ?_
              go_wp2_with fail
              go_ret
              have hend := hL.cut o Ho.out.1 b2 oC (Below.refl _ _)
              rw [← Hq.out] at hend
              exact ⟨_, hend⟩
            · have e2 : IntKind.i64.wrap ((s3.pos : Int) - 1 - (s3.base : Int)) = (s3.pos : Int) - 1 - (s3.base : Int) := IntWalk.i64_in _ (by omega)
              have t1 : ¬ (0 : Int) < (s3.pos : Int) - 1 - (s3.base : Int) := by omega
              clear hba hpl hlb hCb hold
              go_quiet (fail)
              go_wp2_with fail
              go_ret
              exact ⟨_, hL.stay (below_drewN _ _)⟩
end Go.Proofs.Ytlbpmepifegeiaa
