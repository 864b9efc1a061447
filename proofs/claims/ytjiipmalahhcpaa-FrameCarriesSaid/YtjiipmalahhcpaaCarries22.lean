/- frame: packets. -/
import Derived.Test.YtjiipmalahhcpaaCarries21
import Derived.Deep.DeepCutAuto
namespace Go.Proofs.Ytjiipmalahhcpaa
set_option linter.unusedVariables false
open Go.RowKit

theorem Try.info38 : (Try.prog.info? 38).map (fun i => (i.zero, i.size, i.bytes)) = some (some (.agg #[.bool false, .bool false, .int .i64 0, .int .i64 0, .int .i64 0, .slice none 0 0]), 6, 56) := by kernel_rfl
theorem Try.underlying87 : Try.prog.underlying 87 = some (.slice 38) := by kernel_rfl
set_option maxRecDepth 1000000 in
theorem fr31 (y : Nat → Value) : fr 31 y = #[y 0, y 1, y 2, y 3, y 4, y 5, y 6, y 7, y 8, y 9, y 10, y 11, y 12, y 13, y 14, y 15, y 16, y 17, y 18, y 19, y 20, y 21, y 22, y 23, y 24, y 25, y 26, y 27, y 28, y 29, y 30] := rfl
def PsI (W0 : World) (ps : List PK) (rest : List Nat) (y : Nat → Value) (W : World) : Prop :=
  ∃ (L : List PB) (qs : List PK) (ba : Option Addr) (bn bc : Nat) (la : Option Addr) (lc : Nat), ps = L.map (·.2) ++ qs ∧ y 0 = .slice ba bn bc ∧ y 2 = .slice la L.length lc ∧ y 3 = .slice none 0 0 ∧ y 4 = .bool false ∧
    RdT 5 W0 ba bn bc (vb (encs qs ++ rest)) ∧ W.ownsRow W0.heap.size 38 6 (.slice la L.length lc) L.length (L.flatMap pcl) ∧ (∀ r ∈ L, RdT 5 W r.1.1 r.1.2.1 r.1.2.2 (vb r.2.ds)) ∧ (∀ r ∈ L, r.1.2.1 = r.2.ds.length) ∧ Below W0.heap.size W0 W
structure PksR (W0 W : World) (ps : List PK) (rest : List Nat) (e : Ending) : Prop where
  ex : ∃ (L : List PB) (la : Option Addr) (lc : Nat) (ra : Option Addr) (rc : Nat), e = .returned (.tuple #[.slice la L.length lc, .slice ra rest.length rc, .bool false]) ∧ L.map (·.2) = ps ∧ W.ownsRow W0.heap.size 38 6 (.slice la L.length lc) L.length (L.flatMap pcl) ∧
    (∀ r ∈ L, RdT 5 W r.1.1 r.1.2.1 r.1.2.2 (vb r.2.ds)) ∧ (∀ r ∈ L, r.1.2.1 = r.2.ds.length) ∧ RdT 5 W ra rest.length rc (vb rest)
  blw : Below W0.heap.size W0 W
theorem encs_ge (l : List PK) : l.length ≤ (encs l).length := by
  induction l with
  | nil => exact Nat.le_refl _
  | cons p l ih =>
    rw [encs_cons, List.length_append, p.len, List.length_cons]
    omega
theorem new_pcl (U : World) (r : PB) : ∀ (k : Nat) (x : Value), (pcl r)[k]? = some x → (U.alloc (.cells #[.bool r.2.up, .bool r.2.se, .int .i64 (r.2.ap : Int), .int .i64 (r.2.pt : Int), .int .i64 (r.2.ct : Int), .slice r.1.1 r.1.2.1 r.1.2.2] 38)).cell? ((⟨U.heap.size, 0, none⟩ : Addr).add k) = some x := new_cells U (pcl r) 38
set_option maxRecDepth 1000000 in
set_option maxHeartbeats 4000000 in
theorem packets_ok (ps : List PK) (rest : List Nat) (ba : Option Addr) (bn bc : Nat) (W0 : World) (hr : RdT 5 W0 ba bn bc (vb (encs ps ++ rest))) (hp : ∀ p ∈ ps, p.Ok) (hR : Part rest) (hbn : bn ≤ 100000) :
    Calls Try.prog 28 #[.slice ba bn bc] W0 fun e w' => PksR W0 w' ps rest e := by
  have hpl : ps.length ≤ 100000 := by
    have h1 := hr.rd.len
    rw [vb_len, List.length_append] at h1
    have h2 := encs_ge ps
    omega
  have HP := hid hp
  have HR := hid hR
  have Hr := hid hr
  clear hp hR hr
  go_enter Try.func28, Try.ntmps28
  refine wp_seq_k (fun K0 hK0 => ?_)
  go_wp2_with fail
  refine hK0.out _ _ ?_
  refine wp_seq_k (fun K1 hK1 => ?_)
  refine wp_block ?_
  refine wp_loop_fr 31 (PsI W0 ps rest) (fun y' _ => match y' 0 with | .slice _ k _ => k | _ => 0) ⟨rfl, rfl, [], ps, ba, bn, bc, none, 0, rfl, rfl, rfl, rfl, rfl, Hr.out, World.ownsRow_nil _ _ _ _, fun r h => (by cases h), fun r h => (by cases h), Below.refl _ _⟩ ?_
  rintro z W ⟨L, qs, ca, cn, cc, la, lc, hps, s0, s2, s3, s4, hrd, ho, hL, hLn, hb⟩
  have Hps := hid hps
  have HRd := hid hrd
  have HO := hid ho
  have HL := hid hL
  have HLn := hid hLn
  have HB := hid hb
  have hlen : (encs qs ++ rest).length = cn := by have := hrd.rd.len; rwa [vb_len] at this
  have hmx := Nat.le_trans hrd.rd.le hrd.rd.max
  unfold maxLen at hmx
  have Hlen := hid hlen
  clear hps hrd ho hL hLn hb hlen
  rw [fr31]
  simp only [s0, s2, s3, s4]
  clear s0 s2 s3 s4
  cases qs with
  | nil =>
    have hL2 : L.map (·.2) = ps := by rw [Hps.out, List.append_nil]
    have HL2 := hid hL2
    have hrl : rest.length = cn := Hlen.out
    have HRd2 : Hid (RdT 5 W0 ca cn cc (vb rest)) := HRd.out
    clear hL2 Hps Hlen HRd
    by_cases h0 : cn = 0
    · subst h0
      have hnil : rest = [] := List.eq_nil_of_length_eq_zero hrl
      subst hnil
      clear hrl
      go_wp2_with fail
      refine hK1.out _ _ ?_
      go_wp2_with fail
      go_ret3
      exact ⟨⟨L, la, lc, none, 0, rfl, HL2.out, HO.out, HL.out, HLn.out, RdT.nil 5 _⟩, HB.out⟩
    · have d1 : decide (0 < (cn : Int)) = true := decide_eq_true (by omega)
      have d2 : decide (0 < cn) = true := decide_eq_true (by omega)
      have hdec := decode_part ca cn cc rest W (HRd2.out.rd.below HB.out) HR.out
      have Hrl := hid hrl
      clear hrl
      go_wp2_with fail
      refine hdec.mono ?_
      rintro e V1 ⟨rfl, hb1⟩
      have HB1 := hid (HB.out.trans (hb1.mono HB.out.size))
      have HO1 := hid (ownsRow_below HO.out hb1)
      have HL1 : Hid (∀ r ∈ L, RdT 5 V1 r.1.1 r.1.2.1 r.1.2.2 (vb r.2.ds)) := fun r h => (HL.out r h).below hb1
      clear hdec hb1 HO HL HB
      have b2 := below_alloc V1 (.cells #[.bool false, .bool false, .int .i64 0, .int .i64 0, .int .i64 0, .slice none 0 0] 38)
      have HB2 := hid (HB1.out.trans (b2.mono HB1.out.size))
      have HO2 := hid (ownsRow_below HO1.out b2)
      have HL2' : Hid (∀ r ∈ L, RdT 5 (V1.alloc (.cells #[.bool false, .bool false, .int .i64 0, .int .i64 0, .int .i64 0, .slice none 0 0] 38)) r.1.1 r.1.2.1 r.1.2.2 (vb r.2.ds)) := fun r h => (HL1.out r h).below b2
      clear b2 HB1 HO1 HL1
      go_wp2_with fail
      go_ret3
      exact ⟨⟨L, la, lc, ca, cc, by rw [Hrl.out]; rfl, HL2.out, HO2.out, HL2'.out, HLn.out, by rw [Hrl.out]; exact HRd2.out.below HB2.out⟩, HB2.out⟩
  | cons p qs =>
    have hpk := HP.out p (by rw [Hps.out]; exact List.mem_append_right _ List.mem_cons_self)
    have hqk : ∀ x ∈ qs, x.Ok := fun x hx => HP.out x (by rw [Hps.out]; exact List.mem_append_right _ (List.mem_cons_of_mem _ hx))
    have hE : encs (p :: qs) ++ rest = p.enc ++ (encs qs ++ rest) := by rw [encs_cons, List.append_assoc]
    have hrd := HRd.out
    rw [hE] at hrd
    have hcn : cn = 6 + p.ds.length + (encs qs ++ rest).length := by
      rw [← Hlen.out, hE, List.length_append, p.len]
    have hdec := decode_enc ca cn cc p.up p.se p.ap p.pt p.ct p.ds (encs qs ++ rest) W (hrd.below HB.out).rd hpk.ds ((encs_all hqk).append HR.out.all) hpk.ap hpk.pt hpk.ct hpk.lo hpk.hi
    obtain ⟨b, off, rfl, _, _⟩ := hrd.rd.mem (by omega)
    have hlo := hpk.lo
    have hhi := hpk.hi
    have hdr := hrd.drop (6 + p.ds.length) (by omega)
    rw [vb_drop, ← p.len, List.drop_left] at hdr
    have hle := hrd.rd.le
    obtain ⟨m, hm⟩ : ∃ m, m = 6 + p.ds.length := ⟨_, rfl⟩
    have hcut : ∀ w, (Instr.sliceAt 33 (.slice (some ⟨b, off, none⟩) cn cc) (some (.int .i64 (m : Int))) none none).run Try.prog w = _ := fun w => run_cut33 b off cn cc m (by omega) w
    rw [p.len, ← hm] at hdr
    rw [← hm] at hdec
    have HDr := hid hdr
    have hm6 : 6 ≤ m ∧ m ≤ cn := by omega
    generalize (if cc = m then off else off + m) = off2 at *
    have d1 : decide (0 < (cn : Int)) = true := decide_eq_true (by omega)
    have d2 : decide (0 < cn) = true := decide_eq_true (by omega)
    clear hrd hqk hE hdr
    have Hcn := hid hcn
    have Hm := hid hm
    clear hcn hm hpk
    generalize hdl : p.ds.length = dl at *
    have Hdl := hid hdl
    clear hdl
    go_wp2_with fail
    refine hdec.mono ?_
    rintro e V1 ⟨ao, ac, rfl, ho1, hb1⟩
    have HB1 := hid (HB.out.trans (hb1.mono HB.out.size))
    have HO1 := hid (ownsRow_below HO.out hb1)
    have HL1 : Hid (∀ r ∈ L, RdT 5 V1 r.1.1 r.1.2.1 r.1.2.2 (vb r.2.ds)) := fun r h => (HL.out r h).below hb1
    have HN1 := hid (RdT.ofOwn ho1)
    have hLl : L.length ≤ 100000 := by
      have h1 := Hps.out
      have h2 : ps.length = (L.map (·.2) ++ p :: qs).length := by rw [h1]
      rw [List.length_append, List.length_map] at h2
      omega
    clear hdec hb1 HO HL HB ho1 hpl
    obtain ⟨r, hr⟩ : ∃ r : PB, r = ((ao, dl, ac), p) := ⟨_, rfl⟩
    have b2 := below_alloc V1 (.cells #[.bool p.up, .bool p.se, .int .i64 (p.ap : Int), .int .i64 (p.pt : Int), .int .i64 (p.ct : Int), .slice ao dl ac] 38)
    have r2 := heap_alloc_new V1 (.cells #[.bool p.up, .bool p.se, .int .i64 (p.ap : Int), .int .i64 (p.pt : Int), .int .i64 (p.ct : Int), .slice ao dl ac] 38)
    have HB2 := hid (HB1.out.trans (b2.mono HB1.out.size))
    have HO2 := hid (ownsRow_below HO1.out b2)
    have HL2 : Hid (∀ r ∈ L, RdT 5 (V1.alloc (.cells #[.bool p.up, .bool p.se, .int .i64 (p.ap : Int), .int .i64 (p.pt : Int), .int .i64 (p.ct : Int), .slice ao dl ac] 38)) r.1.1 r.1.2.1 r.1.2.2 (vb r.2.ds)) := fun r h => (HL1.out r h).below b2
    have HN2 := hid (HN1.out.below b2)
    have HX : Hid (∀ k, (Value.slice la L.length lc).ownBlock = some k → k ≠ V1.heap.size) := fun k hk => by have := (HO1.out.lt k hk).2; omega
    obtain ⟨X, hX⟩ : ∃ X, X = V1.heap.size := ⟨_, rfl⟩
    rw [← hX] at r2 HX
    have R2 := hid r2
    clear b2 r2 HB1 HO1 HL1 HN1
    go_upto_region 5 with (fail)
    rw [← hX]
    clear hX
    generalize V1.alloc (.cells #[.bool p.up, .bool p.se, .int .i64 (p.ap : Int), .int .i64 (p.pt : Int), .int .i64 (p.ct : Int), .slice ao dl ac] 38) = V2 at *
    obtain ⟨i38, hi38, hz38, hs38, hb38⟩ := info_parts Try.info38
    have hd : V2.grownBy V2.drew (Value.slice la L.length lc).ownBlock := grownBy_drew _ _
    have x0 : ∀ w', V2.drew.grownBy w' (Value.slice la L.length lc).ownBlock → w'.cell? ⟨X, 0, none⟩ = some (.bool p.up) := fun w' hw => by rw [cell_of_row _ _ _ _ _ _ ((hw.block X (row_lt R2.out) (fun e => HX.out X e.symm rfl)).trans R2.out)]; rfl
    have x1 : ∀ w', V2.drew.grownBy w' (Value.slice la L.length lc).ownBlock → w'.cell? ⟨X, 1, none⟩ = some (.bool p.se) := fun w' hw => by rw [cell_of_row _ _ _ _ _ _ ((hw.block X (row_lt R2.out) (fun e => HX.out X e.symm rfl)).trans R2.out)]; rfl
    have x2 : ∀ w', V2.drew.grownBy w' (Value.slice la L.length lc).ownBlock → w'.cell? ⟨X, 2, none⟩ = some (.int .i64 (p.ap : Int)) := fun w' hw => by rw [cell_of_row _ _ _ _ _ _ ((hw.block X (row_lt R2.out) (fun e => HX.out X e.symm rfl)).trans R2.out)]; rfl
    have x3 : ∀ w', V2.drew.grownBy w' (Value.slice la L.length lc).ownBlock → w'.cell? ⟨X, 3, none⟩ = some (.int .i64 (p.pt : Int)) := fun w' hw => by rw [cell_of_row _ _ _ _ _ _ ((hw.block X (row_lt R2.out) (fun e => HX.out X e.symm rfl)).trans R2.out)]; rfl
    have x4 : ∀ w', V2.drew.grownBy w' (Value.slice la L.length lc).ownBlock → w'.cell? ⟨X, 4, none⟩ = some (.int .i64 (p.ct : Int)) := fun w' hw => by rw [cell_of_row _ _ _ _ _ _ ((hw.block X (row_lt R2.out) (fun e => HX.out X e.symm rfl)).trans R2.out)]; rfl
    have x5 : ∀ w', V2.drew.grownBy w' (Value.slice la L.length lc).ownBlock → w'.cell? ⟨X, 5, none⟩ = some (.slice ao dl ac) := fun w' hw => by rw [cell_of_row _ _ _ _ _ _ ((hw.block X (row_lt R2.out) (fun e => HX.out X e.symm rfl)).trans R2.out)]; rfl
    refine wp_region_can_all [2, 3] [0, 1, 4, 5, 6, 2, 3, 7, 8] (fun u u' => u.grownBy u' (Value.slice la L.length lc).ownBlock) (fun _ => World.grownBy.refl _ _) (fun _ _ _ h k => grownBy_trans h k) (by kernel_rfl) (by kernel_rfl) ?_
    simp only [List.map_cons, List.map_nil, List.contains_cons, List.contains_nil, List.getD_cons_zero, List.getD_cons_succ, Nat.reduceBEq, Bool.or_false, Bool.or_true]
    have HBd := hid (HB2.out.drew)
    have HOd := hid (ownsRow_below HO2.out ((Below.refl _ V2).drew))
    have HLd : Hid (∀ r ∈ L, RdT 5 V2.drew r.1.1 r.1.2.1 r.1.2.2 (vb r.2.ds)) := fun r h => (HL2.out r h).below ((Below.refl _ V2).drew)
    have HNd := hid (HN2.out.below ((Below.refl _ V2).drew))
    clear HB2 HO2 HL2 HN2 hd R2 HX
    generalize V2.drew = U at *
    iterate 5 (refine wpL_do rfl (fun w' hw' => (by go_simp; rfl)) ?_; simp only [Act.put, List.setIfInBounds_toArray, List.set_cons_succ, List.set_cons_zero])
    clear x0 x1 x2 x3 x4 x5
    have b6 := below_alloc U (.cells #[.bool p.up, .bool p.se, .int .i64 (p.ap : Int), .int .i64 (p.pt : Int), .int .i64 (p.ct : Int), .slice ao dl ac] 38)
    have hn6 := new_pcl U r
    rw [hr] at hn6
    refine wpL_call rfl (fun K hK => ?_)
    go_wp2_with fail
    refine hK _ _ (grownBy_of_below b6 _) ?_
    clear hK K
    try simp only [Act.put, List.setIfInBounds_toArray, List.set_cons_succ, List.set_cons_zero]
    have HB6 := hid (HBd.out.trans (b6.mono HBd.out.size))
    have HO6 := hid (ownsRow_below HOd.out b6)
    have HL6 : Hid (∀ r ∈ L, RdT 5 (U.alloc (.cells #[.bool p.up, .bool p.se, .int .i64 (p.ap : Int), .int .i64 (p.pt : Int), .int .i64 (p.ct : Int), .slice ao dl ac] 38)) r.1.1 r.1.2.1 r.1.2.2 (vb r.2.ds)) := fun r h => (HLd.out r h).below b6
    have HN6 := hid (HNd.out.below b6)
    clear b6 HBd HOd HLd HNd
    obtain ⟨N1, hN1⟩ : ∃ N1, N1 = U.heap.size := ⟨_, rfl⟩
    rw [← hN1] at hn6 ⊢
    clear hN1
    generalize U.alloc (.cells #[.bool p.up, .bool p.se, .int .i64 (p.ap : Int), .int .i64 (p.pt : Int), .int .i64 (p.ct : Int), .slice ao dl ac] 38) = U2 at *
    refine wpL_call rfl (fun K hK => ?_)
    refine wp_append_wide_at (.tmp 23) (.tmp 25) 87 rfl W0.heap.size 38 i38 _ 6 56 Try.underlying87 hi38 hz38 hs38 hb38 rfl (by decide) (.slice la L.length lc) L.length (L.flatMap pcl) rfl HO6.out ⟨N1, 0, none⟩ 1 1 (pcl ((ao, dl, ac), p)) rfl rfl hn6 (pcl_one _) (by unfold maxLen; omega) (by omega) HB6.out.size ?_
    intro v' U3 o3 g3 _
    obtain ⟨va, vc, rfl, _, _, _⟩ := own_form o3
    refine hK _ _ g3 ?_
    clear hK K
    try simp only [Act.put, List.setIfInBounds_toArray, List.set_cons_succ, List.set_cons_zero]
    have h5ne : ∀ b cs, U2.heap[b]? = some (.cells cs 5) → (Value.slice la L.length lc).ownBlock ≠ some b := fun b cs hb e => by
      rcases own_ne HO6.out hb (by decide) with h1 | h1
      · rw [h1] at e; cases e
      · exact h1 e
    have HL7 : Hid (∀ x ∈ L ++ [((ao, dl, ac), p)], RdT 5 U3 x.1.1 x.1.2.1 x.1.2.2 (vb x.2.ds)) := fun x hx => by
      rcases List.mem_append.1 hx with h | h
      · exact (HL6.out x h).kept g3 h5ne
      · rw [List.mem_singleton] at h
        subst h
        exact HN6.out.kept g3 h5ne
    have HLn7 : Hid (∀ x ∈ L ++ [((ao, dl, ac), p)], x.1.2.1 = x.2.ds.length) := fun x hx => by
      rcases List.mem_append.1 hx with h | h
      · exact HLn.out x h
      · rw [List.mem_singleton] at h
        subst h
        exact Hdl.out.symm
    have HB7 := hid (HB6.out.grown g3 HB6.out.size (fun k hk => (HO6.out.lt k hk).1))
    have HO7 := hid o3
    clear o3 g3 HL6 HN6 HB6 HO6 h5ne hn6
    repeat (refine wpL_do rfl (fun w' hw' => (by go_simp; rfl)) ?_; simp only [Act.put, List.setIfInBounds_toArray, List.set_cons_succ, List.set_cons_zero])
    refine wpL_nil ?_
    have hrow : U3.ownsRow W0.heap.size 38 6 (.slice va (L ++ [((ao, dl, ac), p)]).length vc) (L ++ [((ao, dl, ac), p)]).length ((L ++ [((ao, dl, ac), p)]).flatMap pcl) := by
      rw [List.length_append, List.flatMap_append]
      simpa using HO7.out
    have Hrow := hid hrow
    clear hrow HO7
    go_wp2_with fail
    refine ⟨rfl, rfl, ⟨L ++ [((ao, dl, ac), p)], qs, some ⟨b, off2, none⟩, cn - m, cc - m, va, vc, by rw [Hps.out]; simp, rfl, by rw [List.length_append]; rfl, rfl, rfl, HDr.out, Hrow.out, HL7.out, HLn7.out, HB7.out⟩, ?_⟩
    show cn - m < cn
    omega
end Go.Proofs.Ytjiipmalahhcpaa
/- frame: row. -/
namespace Go.Proofs.Ytjiipmalahhcpaa
set_option linter.unusedVariables false
open Go.RowKit

structure RowR (W0 W : World) (out : List Nat) (e : Ending) : Prop where
  ex : ∃ xa xc, e = .returned (.slice xa out.length xc) ∧ RdT 5 W xa out.length xc (vb out)
  blw : Below W0.heap.size W0 W
set_option maxRecDepth 1000000 in
set_option maxHeartbeats 4000000 in
theorem row_nil (ra : Option Addr) (rc : Nat) (da : Option Addr) (dn dc : Nat) (W0 : World) :
    Calls Try.prog 29 #[.slice ra 0 rc, .slice da dn dc, .int .i64 2047] W0 fun e w' => RowR W0 w' [] e := by
  go_enter Try.func29, Try.ntmps29
  go_wp2_with fail
  go_ret
  exact ⟨⟨none, 0, rfl, RdT.nil 5 _⟩, Below.refl _ _⟩
set_option maxRecDepth 1000000 in
set_option maxHeartbeats 4000000 in
theorem row_from (ra : Option Addr) (rc b off dn dc f : Nat) (ds : List Nat) (W0 : World) (hd : RdT 5 W0 (some ⟨b, off, none⟩) dn dc (vb ds)) (hf : f < dn) (hdn : dn ≤ 2036) :
    Calls Try.prog 29 #[.slice ra 0 rc, .slice (some ⟨b, off, none⟩) dn dc, .int .i64 (f : Int)] W0 fun e w' => RowR W0 w' (ds.drop f) e := by
  have hl : ds.length = dn := by have := hd.rd.len; rwa [vb_len] at this
  have hle := hd.rd.le
  have hmx := hd.rd.max
  unfold maxLen at hmx
  have hdr := hd.drop f (by omega)
  rw [vb_drop] at hdr
  have hol : (ds.drop f).length = dn - f := by rw [List.length_drop, hl]
  rw [← hol] at hdr
  have hcut : ∀ w, (Instr.sliceAt 33 (.slice (some ⟨b, off, none⟩) dn dc) (some (.int .i64 (f : Int))) none none).run Try.prog w = .ok (.slice (some ⟨b, if dc = f then off else off + f, none⟩) (ds.drop f).length (dc - f)) w := fun w => by rw [hol]; exact run_cut33 b off dn dc f (by omega) w
  generalize (if dc = f then off else off + f) = off2 at *
  generalize ds.drop f = out at *
  have HDr := hid hdr
  have e1 : ((f : Int) == 2047) = false := by rw [beq_eq_false_iff_ne]; omega
  have e2 : decide ((f : Int) = 2047) = false := decide_eq_false (by omega)
  have e3 : (f == 2047) = false := by rw [beq_eq_false_iff_ne]; omega
  have d1 : decide ((dn : Int) ≤ (f : Int)) = false := decide_eq_false (by omega)
  have d2 : decide ((f : Int) ≥ (dn : Int)) = false := decide_eq_false (by omega)
  have d3 : decide (dn ≤ f) = false := decide_eq_false (by omega)
  clear hd hdr hl hol hle hmx
  go_enter Try.func29, Try.ntmps29
  go_wp2_with fail
  go_ret
  exact ⟨⟨some ⟨b, off2, none⟩, dc - f, rfl, HDr.out⟩, Below.refl _ _⟩
theorem two_cells (w : World) (u v : Value) : ∀ (j : Nat) (x : Value), [u, v][j]? = some x → (w.alloc (.cells #[u, v] 33)).cell? ((⟨w.heap.size, 0, none⟩ : Addr).add j) = some x := new_cells w [u, v] 33
set_option maxRecDepth 1000000 in
set_option maxHeartbeats 4000000 in
theorem row_all (ra : Option Addr) (rn rc : Nat) (da : Option Addr) (dn dc : Nat) (rs ds : List Nat) (W0 : World) (hr : RdT 5 W0 ra rn rc (vb rs)) (hd : RdT 5 W0 da dn dc (vb ds)) (hrn : 0 < rn) (hr2 : rn ≤ 70000) (hdn : dn ≤ 2036) :
    Calls Try.prog 29 #[.slice ra rn rc, .slice da dn dc, .int .i64 2047] W0 fun e w' => RowR W0 w' (rs ++ ds) e := by
  have hrl : rs.length = rn := by have := hr.rd.len; rwa [vb_len] at this
  have hdl : ds.length = dn := by have := hd.rd.len; rwa [vb_len] at this
  have hol : (rs ++ ds).length = rn + dn := by rw [List.length_append, hrl, hdl]
  have b1 := below_alloc W0 (.cells #[.slice ra rn rc, .slice da dn dc] 33)
  have hcat := cat_two ra da rn rc dn dc rs ds W0.heap.size _ (hr.below b1).rd (hd.below b1).rd (two_cells W0 (.slice ra rn rc) (.slice da dn dc)) (by rw [World.size_alloc]; exact Nat.lt_succ_self _) (by omega)
  rw [← hol] at hcat
  have hsz : Hid (W0.heap.size ≤ (W0.alloc (.cells #[.slice ra rn rc, .slice da dn dc] 33)).heap.size) := b1.size
  have HB1 := hid b1
  have e1 : ((rn : Int) == 0) = false := by rw [beq_eq_false_iff_ne]; omega
  have e2 : decide ((rn : Int) = 0) = false := decide_eq_false (by omega)
  have e3 : (rn == 0) = false := by rw [beq_eq_false_iff_ne]; omega
  clear hr hd hrl hdl b1 hol
  generalize rs ++ ds = out at *
  go_enter Try.func29, Try.ntmps29
  go_wp2_with fail
  refine hcat.mono ?_
  rintro e W2 ⟨ao, c, rfl, ho, hb⟩
  have HO := hid (RdT.ofOwn ho)
  have HB := hid (HB1.out.trans (hb.mono hsz.out))
  clear hcat ho hb
  go_wp2_with fail
  go_ret
  exact ⟨⟨ao, c, rfl, HO.out⟩, HB.out⟩
end Go.Proofs.Ytjiipmalahhcpaa
/- frame: row: where the listener is in step. -/
namespace Go.Proofs.Ytjiipmalahhcpaa
set_option linter.unusedVariables false
open Go.RowKit

theorem part_nil {p : PK} (h : p.Ok) : Part [] := ⟨p, h, 0, by rw [p.len]; omega, rfl⟩
set_option maxRecDepth 1000000 in
set_option maxHeartbeats 4000000 in
theorem row_join (ra : Option Addr) (rn rc b off dn dc f : Nat) (rs ds : List Nat) (p : PK) (W0 : World) (hr : RdT 5 W0 ra rn rc (vb rs)) (hd : RdT 5 W0 (some ⟨b, off, none⟩) dn dc (vb ds)) (hrn : 0 < rn) (hr2 : rn ≤ 70000) (hf : f < dn) (hdn : dn ≤ 2036) (hp : p.Ok) (hj : rs ++ ds.take f = p.enc) :
    Calls Try.prog 29 #[.slice ra rn rc, .slice (some ⟨b, off, none⟩) dn dc, .int .i64 (f : Int)] W0 fun e w' => RowR W0 w' (rs ++ ds) e := by
  have hrl : rs.length = rn := by have := hr.rd.len; rwa [vb_len] at this
  have hl : ds.length = dn := by have := hd.rd.len; rwa [vb_len] at this
  have hle := hd.rd.le
  have hmx := hd.rd.max
  unfold maxLen at hmx
  have hdr := hd.drop f (by omega)
  rw [vb_drop] at hdr
  have htk := hd.rd.take f (by omega)
  rw [vb_take] at htk
  have hcut : ∀ w, (Instr.sliceAt 33 (.slice (some ⟨b, off, none⟩) dn dc) (some (.int .i64 (f : Int))) none none).run Try.prog w = .ok (.slice (some ⟨b, if dc = f then off else off + f, none⟩) (dn - f) (dc - f)) w := fun w => run_cut33 b off dn dc f (by omega) w
  have hcut2 : ∀ w, (Instr.sliceAt 33 (.slice (some ⟨b, off, none⟩) dn dc) none (some (.int .i64 (f : Int))) none).run Try.prog w = .ok (.slice (some ⟨b, off, none⟩) f dc) w := fun w => by have := run_cuth b off dn dc f (by omega) w; rwa [ite_self] at this
  generalize (if dc = f then off else off + f) = off2 at *
  have b1 := below_alloc W0 (.cells #[.slice ra rn rc, .slice (some ⟨b, off, none⟩) f dc] 33)
  have hcat := cat_two ra (some ⟨b, off, none⟩) rn rc f dc rs (ds.take f) W0.heap.size _ (hr.below b1).rd (htk.below b1) (two_cells W0 (.slice ra rn rc) (.slice (some ⟨b, off, none⟩) f dc)) (by rw [World.size_alloc]; exact Nat.lt_succ_self _) (by omega)
  rw [hj] at hcat
  have hsz : Hid (W0.heap.size ≤ (W0.alloc (.cells #[.slice ra rn rc, .slice (some ⟨b, off, none⟩) f dc] 33)).heap.size) := b1.size
  have HB1 := hid b1
  have HDr := hid hdr
  have hout : rs ++ ds = p.enc ++ ds.drop f := by rw [← hj, List.append_assoc, List.take_append_drop]
  have hol : (rs ++ ds).length = rn + f + (dn - f) := by rw [List.length_append, hrl, hl]; omega
  have Hout := hid hout
  have Hol := hid hol
  have e1 : ((f : Int) == 2047) = false := by rw [beq_eq_false_iff_ne]; omega
  have e2 : decide ((f : Int) = 2047) = false := decide_eq_false (by omega)
  have e3 : (f == 2047) = false := by rw [beq_eq_false_iff_ne]; omega
  have d1 : decide ((dn : Int) ≤ (f : Int)) = false := decide_eq_false (by omega)
  have d2 : decide ((f : Int) ≥ (dn : Int)) = false := decide_eq_false (by omega)
  have d3 : decide (dn ≤ f) = false := decide_eq_false (by omega)
  have d4 : decide (0 < (rn : Int)) = true := decide_eq_true (by omega)
  have d5 : decide (0 < rn) = true := decide_eq_true hrn
  obtain ⟨u, hu⟩ : ∃ u, u = rn + f := ⟨_, rfl⟩
  rw [← hu] at hcat
  have hub : u ≤ 80000 := by omega
  have Hu := hid hu
  obtain ⟨k, hk⟩ : ∃ k, k = dn - f := ⟨_, rfl⟩
  rw [← hk] at hcut HDr
  have hkb : k ≤ 2036 := by omega
  have Hk := hid hk
  clear hr hd hrl hl b1 hol hout hdr htk hj hu hk hle
  obtain ⟨i5, hi5, hz5, hs5, hb5⟩ := info_parts Try.info5
  go_enter Try.func29, Try.ntmps29
  go_wp2_with fail
  refine hcat.mono ?_
  rintro e W2 ⟨ao, c, rfl, ho, hb⟩
  have ho' := ownsRow_mono ho hsz.out
  have HB := hid (HB1.out.trans (hb.mono hsz.out))
  have hpk := packets_ok [p] [] ao u c W2 (by rw [List.append_nil, encs_cons, encs_nil, List.append_nil]; exact RdT.ofOwn ho) (fun x hx => by rw [List.mem_singleton] at hx; subst hx; exact hp) (part_nil hp) (by omega)
  have HO := hid ho'
  clear hcat ho hb ho'
  go_wp2_with fail
  refine hpk.mono ?_
  rintro e W3 ⟨⟨L, la, lc, xa, xc, rfl, hL, _, _, _, _⟩, hb3⟩
  have HB3 := hid (HB.out.trans (hb3.mono HB.out.size))
  have HO3 := hid (ownsRow_below HO.out hb3)
  clear hpk hb3 HB HO hL
  rw [show (([] : List Nat).length) = 0 from rfl]
  go_wp2_with (at_builtin; refine hold ?_)
  unfold Hid
  refine wpList_append_rd rfl _ _ 33 rfl W0.heap.size 5 i5 (.int .u8 0) 1 Try.underlying33 hi5 hz5 hs5 hb5 rfl ao u c _ rfl HO3.out (some ⟨b, off2, none⟩) k (dc - f) _ rfl (HDr.out.below HB3.out).rd (vb_oneCell _) (by omega) (by unfold maxLen; omega) HB3.out.size ?_
  intro na nc W4 o4 g4 hb4
  have HO4 := hid o4
  have HB4 := hid (HB3.out.trans hb4)
  clear o4 g4 hb4
  go_wp2_with fail
  go_ret
  refine ⟨⟨na, nc, ?_, ?_⟩, HB4.out⟩
  · rw [Hol.out, Hu.out.symm, Hk.out.symm]
    rfl
  · rw [Hol.out, Hout.out, Hu.out.symm, Hk.out.symm, vb_append]
    exact RdT.ofOwn HO4.out
end Go.Proofs.Ytjiipmalahhcpaa
