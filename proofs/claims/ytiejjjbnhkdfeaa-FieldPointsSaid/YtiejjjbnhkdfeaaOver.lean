/- The walks of Times and Over. -/
import Derived.Test.YtiejjjbnhkdfeaaSum
namespace Go.Proofs.Ytiejjjbnhkdfeaa
set_option linter.unusedVariables false
open Go.RowKit

theorem times_big (pa qa : Option Addr) (pn pc qn qc : Nat) (w : World) (hpn : pn ≤ 140737488355328) (hqn : qn ≤ 140737488355328) (h : 512 < pn ∨ 512 < qn) :
    Calls Try.prog 13 #[.slice pa pn pc, .slice qa qn qc] w fun e w' => e = .returned (.tuple #[.slice none 0 0, .int .i64 1]) ∧ Below w.heap.size w w' := by
  by_cases hle : qn ≤ pn
  all_goals
    go_enter Try.func13, Try.ntmps13
    go_wp2
    go_ret2
    exact ⟨rfl, Below.refl _ _⟩

set_option maxRecDepth 100000 in
theorem times_any (pa qa : Option Addr) (pn pc qn qc : Nat) (ps qs : List Nat) (w : World) (hp : Rd w pa pn pc (vb ps)) (hpb : AllB ps) (hq : Rd w qa qn qc (vb qs)) (hqb : AllB qs) (hpn : pn ≤ 512) (hqn : qn ≤ 512) :
    Calls Try.prog 13 #[.slice pa pn pc, .slice qa qn qc] w fun e w' => ∃ ao' m c, e = .returned (.tuple #[.slice ao' m c, .int .i64 0]) ∧ m = (timesP qs ps).length ∧ w'.ownsRow w.heap.size 5 1 (.slice ao' m c) m (vb (timesP qs ps)) ∧ Below w.heap.size w w' := by
  have hpl : ps.length = pn := by have := hp.len; rwa [vb_len] at this
  have hql : qs.length = qn := by have := hq.len; rwa [vb_len] at this
  have Hpl := hid hpl
  have Hql := hid hql
  clear hpl hql
  have k1 := run_mk (pn + qn) (by omega)
  have own0 := made_own (pn + qn) (by omega) w
  rw [show ((pn + qn : Nat) : Int) = (pn : Int) + (qn : Int) by omega] at k1
  have hp1 := hp.below (below_alloc w (.cells (madeCells #[.int .u8 0] (pn + qn)) 5))
  have hq1 := hq.below (below_alloc w (.cells (madeCells #[.int .u8 0] (pn + qn)) 5))
  have neq : ∀ b off, 0 < qn → qa = some ⟨b, off, none⟩ → b ≠ w.heap.size := fun b off h0 h => by have := hq.block_lt h0 h; omega
  have nep : ∀ b off, 0 < pn → pa = some ⟨b, off, none⟩ → b ≠ w.heap.size := fun b off h0 h => by have := hp.block_lt h0 h; omega
  by_cases hle : qn ≤ pn
  all_goals
    go_enter Try.func13, Try.ntmps13
    go_wp2_with fail
    go_loopw [23] (fun i wr => ∃ k : Nat, k ≤ pn ∧ i = .int .i64 k ∧ wr.ownsRow w.heap.size 5 1 (.slice (some ⟨w.heap.size, 0, none⟩) (pn + qn) (pn + qn)) (pn + qn) (vb (timesTo qs ps k)) ∧ (w.alloc (.cells (madeCells #[.int .u8 0] (pn + qn)) 5)).grownBy wr (some w.heap.size)) (fun i _ => pn - (intOf i).toNat)
    case atStart => exact ⟨0, by omega, rfl, by unfold timesTo; rw [Hpl.out, Hql.out, Nat.add_comm qn pn]; exact own0, World.grownBy.refl _ _⟩
    case round =>
      obtain ⟨k, hk, rfl, ho, hg⟩ := hrel
      by_cases hlt : k < pn
      · obtain ⟨b, off, rfl, hbl, hcell⟩ := (hp1.grown hg (fun b off h0 hh e => by cases e; exact nep _ _ h0 hh rfl)).cell k hlt
        have hx256 := nth_lt hpb k
        have hstep : timesTo qs ps (k + 1) = addTo (timesTo qs ps k) qs (nth ps k) k qs.length := rfl
        rw [Hql.out] at hstep
        have Hs := hid hstep
        clear hstep
        have hall := timesTo_all (ps := qs) hpb k
        generalize hx : nth ps k = x at *
        clear hx
        go_wp2_with fail
        refine (add_any w.heap.size w.heap.size (pn + qn) (pn + qn) _ qs qa _ qc _ _ _ ho hall (hq1.grown hg (fun b off h0 hh e => by cases e; exact neq _ _ h0 hh rfl)) hqb neq (by omega) (by omega) (by omega) (by omega) (by omega)).mono ?_
        rintro e w1 ⟨rfl, o1, g1⟩
        go_wp2
        go_roundw
        case rel => exact ⟨k + 1, by omega, by go_num, by rw [Hs.out]; exact o1, grownBy_trans hg g1⟩
        case measure => simp [intOf]; omega
      · obtain rfl : k = pn := by omega
        go_wp2_with fail
        refine (trimmed_any _ _ _ _ _ (Rd.ofOwn ho) (timesTo_all hpb _) (by omega)).mono ?_
        rintro e w3 ⟨ao, m3, c3, rfl, rfl, o3, hb3⟩
        go_wp2
        go_ret2
        have hs : w.heap.size ≤ wr.heap.size := by have h1 := hg.size; simp at h1; omega
        have e1 : trim (timesTo qs ps k) = timesP qs ps := by unfold timesP; rw [Hpl.out]
        exact ⟨ao, _, c3, rfl, congrArg List.length e1, by rw [← e1]; exact ownsRow_mono o3 hs, (below_of_grown (below_alloc w _) hg (Nat.le_refl _)).trans (hb3.mono hs)⟩

def lenOf : Value → Nat | .slice _ n _ => n | _ => 0

theorem div_st (a b : Nat) (w : World) (ha : a < 256) (hb : b < 256) (h : b ≠ 0) :
    Calls Try.prog 8 #[.int .u8 a, .int .u8 b] w fun e w' => e = .returned (.tuple #[.int .u8 ((Gf.mul a (Gf.inv b) : Nat) : Int), .bool true]) ∧ w' = w :=
  (div_any a b w (by omega) (by omega) (by omega) (by omega)).mono fun e w' ⟨r, he, _, hr, hw⟩ => by
    have := hr.out
    simp at this
    subst this
    exact ⟨he, hw.symm⟩

theorem over_big (pa qa : Option Addr) (pn pc qn qc : Nat) (ps qs : List Nat) (w : World) (hp : Rd w pa pn pc (vb ps)) (hpb : AllB ps) (hq : Rd w qa qn qc (vb qs)) (hqb : AllB qs) (hpn : pn ≤ 140737488355328) (hqn : qn ≤ 140737488355328) (h : 512 < pn ∨ 512 < qn) :
    Calls Try.prog 12 #[.slice pa pn pc, .slice qa qn qc] w fun e w' => e = .returned (.tuple #[.slice none 0 0, .slice none 0 0, .int .i64 1]) ∧ Below w.heap.size w w' := by
  by_cases hle : qn ≤ pn
  all_goals
    go_enter Try.func12, Try.ntmps12
    go_wp2_with fail
    refine (trimmed_any _ _ _ _ _ hq hqb (by omega)).mono ?_
    rintro e w1 ⟨ao, m, c, rfl, rfl, o1, hb1⟩
    go_wp2
    go_ret3
    exact ⟨rfl, hb1⟩

theorem over_zero (pa qa : Option Addr) (pn pc qn qc : Nat) (ps qs : List Nat) (w : World) (hp : Rd w pa pn pc (vb ps)) (hpb : AllB ps) (hq : Rd w qa qn qc (vb qs)) (hqb : AllB qs) (hpn : pn ≤ 512) (hqn : qn ≤ 512) (h : trim qs = []) :
    Calls Try.prog 12 #[.slice pa pn pc, .slice qa qn qc] w fun e w' => e = .returned (.tuple #[.slice none 0 0, .slice none 0 0, .int .i64 3]) ∧ Below w.heap.size w w' := by
  have H := hid h
  clear h
  by_cases hle : qn ≤ pn
  all_goals
    go_enter Try.func12, Try.ntmps12
    go_wp2_with fail
    refine (trimmed_any _ _ _ _ _ hq hqb (by omega)).mono ?_
    rintro e w1 ⟨ao, m, c, rfl, hm, o1, hb1⟩
    rw [H.out] at hm
    obtain rfl : m = 0 := hm
    go_wp2
    go_ret3
    exact ⟨rfl, hb1⟩

/-- what Over answers -/
def OverPost (B : Nat) (w : World) (ps ds : List Nat) (e : Ending) (w' : World) : Prop :=
  ∃ (qs rs : List Nat) (a1 : Option Addr) (n1 c1 : Nat) (a2 : Option Addr) (n2 c2 : Nat), e = .returned (.tuple #[.slice a1 n1 c1, .slice a2 n2 c2, .int .i64 0]) ∧ Good ps ds qs rs ∧ rs.length < ds.length ∧
    n1 = (trim qs).length ∧ n2 = rs.length ∧ w'.ownsRow B 5 1 (.slice a1 n1 c1) n1 (vb (trim qs)) ∧ w'.ownsRow B 5 1 (.slice a2 n2 c2) n2 (vb rs) ∧ Below B w w'

set_option maxRecDepth 100000 in
theorem over_any (pa qa : Option Addr) (pn pc qn qc : Nat) (ps qs : List Nat) (w : World) (hp : Rd w pa pn pc (vb ps)) (hpb : AllB ps) (hq : Rd w qa qn qc (vb qs)) (hqb : AllB qs) (hpn : pn ≤ 512) (hqn : qn ≤ 512) (h : trim qs ≠ []) :
    Calls Try.prog 12 #[.slice pa pn pc, .slice qa qn qc] w (OverPost w.heap.size w ps (trim qs)) := by
  have hpl : ps.length = pn := by have := hp.len; rwa [vb_len] at this
  have Hpl := hid hpl
  clear hpl
  have k1 := run_mk pn (by omega)
  have hd1 : 1 ≤ (trim qs).length := by
    rcases Nat.eq_zero_or_pos (trim qs).length with h0 | h0
    · exact absurd (List.eq_nil_of_length_eq_zero h0) h
    · exact h0
  have htop : nth (trim qs) ((trim qs).length - 1) ≠ 0 := by rw [trim_nth]; exact trim_top h
  have hdb := trim_all hqb
  have hdl : (trim qs).length ≤ 512 := by
    have h1 := trimN_le qs qs.length
    have h2 : qs.length = qn := by have := hq.len; rwa [vb_len] at this
    rw [trim_len]; omega
  by_cases hle : qn ≤ pn
  all_goals
    go_enter Try.func12, Try.ntmps12
    go_wp2_with fail
    refine (trimmed_any _ _ _ _ _ hq hqb (by omega)).mono ?_
    rintro e w1 ⟨da, dn, dc, rfl, hdn, od, hb1⟩
    have Hdn := hid hdn
    have hdn0 : 1 ≤ dn := by omega
    have hdn5 : dn ≤ 512 := by omega
    have hdne : ((dn : Int) == 0) = false := by simp; omega
    clear hdn
    go_wp2_with fail
    refine (trimmed_any _ _ _ _ _ (hp.below hb1) hpb (by omega)).mono ?_
    rintro e w2 ⟨ra, rn, rc, rfl, hrn, orr, hb2⟩
    have Hrn := hid hrn
    clear hrn
    have od2 := ownsRow_below od hb2
    have own0 := made_own pn (by omega) w2
    go_wp2_with fail
    obtain ⟨gd, rfl, hgd1, hgd2⟩ : ∃ gd, da = some ⟨gd, 0, none⟩ ∧ w.heap.size ≤ gd ∧ gd < w1.heap.size := by
      obtain ⟨ao, cap, hv, _, _, hh⟩ := own_form od
      cases hv
      rcases hh with ⟨_, h0, _⟩ | ⟨g, h1, h2, h3⟩
      · omega
      · exact ⟨g, h1, h2, h3⟩
    have hs1 := hb1.size
    have hs2 := hb2.size
    have hB1 : Below w.heap.size w w2 := hb1.trans (hb2.mono hs1)
    generalize hds : trim qs = ds at *
    clear hds
    go_loopw [8] (fun v wr => ∃ (ra : Option Addr) (rn rc : Nat) (qs rs : List Nat), v = .slice ra rn rc ∧ Hid (rn = rs.length) ∧ rn ≤ 512 ∧ wr.ownsRow w1.heap.size 5 1 (.slice ra rn rc) rn (vb rs) ∧ wr.ownsRow w.heap.size 5 1 (.slice (some ⟨gd, 0, none⟩) dn dc) dn (vb ds) ∧
        wr.ownsRow w.heap.size 5 1 (.slice (some ⟨w2.heap.size, 0, none⟩) pn pn) pn (vb qs) ∧ (∀ g, ra = some ⟨g, 0, none⟩ → g ≠ w2.heap.size) ∧ Good ps ds qs rs ∧ Below w.heap.size w wr ∧ w2.heap.size < wr.heap.size) (fun v _ => lenOf v)
    case atStart =>
      refine ⟨ra, rn, rc, List.replicate pn 0, trim ps, rfl, Hrn, ?_, ownsRow_below orr (below_alloc _ _), ownsRow_below od2 (below_alloc _ _), ownsRow_mono own0 (by omega), ?_, by rw [← Hpl.out]; exact good_start hpb hdb, hB1.trans ((below_alloc _ _).mono (by omega)), by simp⟩
      · have h1 := trimN_le ps ps.length
        have h2 := Hrn.out
        rw [trim_len] at h2
        have h3 := Hpl.out
        omega
      · intro g hg
        subst hg
        have := (orr.lt g rfl).2
        omega
    case round =>
      obtain ⟨ra, rn, rc, qs', rs, rfl, Hrs, hrn, o1, o2, o3, hne, hG, hbw, hsz⟩ := hrel
      by_cases hlt : dn ≤ rn
      · obtain ⟨gr, rfl, hgr1, hgr2⟩ : ∃ gr, ra = some ⟨gr, 0, none⟩ ∧ w1.heap.size ≤ gr ∧ gr < wr.heap.size := by
          obtain ⟨ao, cap, hv, _, _, hh⟩ := own_form o1
          cases hv
          rcases hh with ⟨_, h0, _⟩ | ⟨g, h1, h2, h3⟩
          · omega
          · exact ⟨g, h1, h2, h3⟩
        have hgq := hne gr rfl
        have hc1 : wr.cell? ⟨gr, rn - 1, none⟩ = some (.int .u8 (nth rs (rn - 1))) := by
          rw [o1.cellAt _ (by omega), vb_get _ _ (by have := Hrs.out; omega)]
        have hc2 : wr.cell? ⟨gd, dn - 1, none⟩ = some (.int .u8 (nth ds (dn - 1))) := by
          rw [o2.cellAt _ (by omega), vb_get _ _ (by have := Hdn.out; omega)]
        have hr256 := nth_lt hG.rall (rn - 1)
        have hd256 := nth_lt hdb (dn - 1)
        have hd0 : nth ds (dn - 1) ≠ 0 := by rw [Hdn.out]; exact htop
        have hpn' : rn ≤ pn := by have h1 := hG.rle; have h2 := Hrs.out; have h3 := Hpl.out; omega
        have hstep := good_step hG hdb hd1 htop (by have h1 := Hrs.out; have h2 := Hdn.out; omega) (Gf.mul (nth rs (rn - 1)) (Gf.inv (nth ds (dn - 1)))) (rn - dn) (by rw [Hrs.out, Hdn.out]) (by rw [Hrs.out, Hdn.out])
        have hk256 := Gf.mul_lt (nth rs (rn - 1)) (Gf.inv (nth ds (dn - 1))) hr256
        have hrall := hG.rall
        have hcq : (wr.drew).cell? ⟨w2.heap.size, rn - dn, none⟩ = some (.int .u8 (nth qs' (rn - dn))) := by
          show wr.cell? _ = _
          rw [o3.cellAt _ (by omega), vb_get _ _ (by have h1 := hG.qlen; have h3 := Hpl.out; omega)]
        have hfq : (wr.drew).frozen? ⟨w2.heap.size, rn - dn, none⟩ = false := o3.frozenAt _
        have Hstep := hid hstep
        clear hstep hG
        generalize hx : nth rs (rn - 1) = x at *
        generalize hy : nth ds (dn - 1) = y at *
        clear hx hy
        go_wp2
        have s1 : IntKind.i64.wrap ((rn : Int) - 1) = (rn : Int) - 1 := IntWalk.i64_in _ (by omega)
        have s2 : IntKind.i64.wrap ((dn : Int) - 1) = (dn : Int) - 1 := IntWalk.i64_in _ (by omega)
        have s3 : (0 : Int) ≤ (rn : Int) - 1 := by omega
        have s4 : (0 : Int) ≤ (dn : Int) - 1 := by omega
        have s3' : (1 : Int) ≤ (rn : Int) := by omega
        have s4' : (1 : Int) ≤ (dn : Int) := by omega
        have s5 : ((rn : Int) - 1).toNat = rn - 1 := by omega
        have s6 : ((dn : Int) - 1).toNat = dn - 1 := by omega
        have s7 : (rn : Int) - 1 < (rn : Int) := by omega
        have s8 : (dn : Int) - 1 < (dn : Int) := by omega
        refine wp_region_still_lit (by kernel_rfl) (by kernel_rfl) ?_
        repeat still_step
        still_call (div_st x y _ hr256 hd256 hd0)
        repeat still_step
        refine wpStill_nil ?_
        clear s1 s2 s3 s4 s3' s4' s5 s6 s7 s8
        change Exit.then _ _ Exit.normal _ wr.drew
        have o1' := ownsRow_below o1.drew (Below.refl _ _)
        have hd' : wr.drew.heap.size = wr.heap.size := rfl
        have o1d : wr.drew.ownsRow w1.heap.size 5 1 (.slice (some ⟨gr, 0, none⟩) rn rc) rn (vb rs) := o1.drew
        have o2d : wr.drew.ownsRow w.heap.size 5 1 (.slice (some ⟨gd, 0, none⟩) dn dc) dn (vb ds) := o2.drew
        have o3d : wr.drew.ownsRow w.heap.size 5 1 (.slice (some ⟨w2.heap.size, 0, none⟩) pn pn) pn (vb qs') := o3.drew
        have hbd : Below w.heap.size w wr.drew := hbw.drew
        have hszd : w2.heap.size < wr.drew.heap.size := hsz
        generalize wr.drew = wd at *
        clear o1 o2 o3 hbw hsz hc1 hc2 o1' hd'
        have hst := o3d.stored (rn - dn) (.int .u8 ((Gf.mul x (Gf.inv y) : Nat) : Int))
        rw [vb_set] at hst
        obtain ⟨st1, st2⟩ := hst
        have o1e := o1d.kept st2 (.inr (by simp [Value.ownBlock]; exact hgq))
        have o2e := o2d.kept st2 (.inr (by simp [Value.ownBlock]; omega))
        have hbe := hbd.setCell (p := ⟨w2.heap.size, rn - dn, none⟩) (by show w.heap.size ≤ w2.heap.size; omega) (.int .u8 ((Gf.mul x (Gf.inv y) : Nat) : Int))
        have hsze := st2.size
        go_wp2_with fail
        refine (add_any w1.heap.size gr rn rc rs ds _ dn dc _ _ _ o1e hrall (Rd.ofOwn o2e) hdb (fun b off _ hh => by cases hh; omega) (by omega) (by omega) (by omega) (by omega) (by omega)).mono ?_
        rintro e w4 ⟨rfl, o1f, g4⟩
        go_wp2_with fail
        refine (trimmed_any _ _ _ _ _ (Rd.ofOwn o1f) (addTo_all hrall (by simpa using hk256) _) (by omega)).mono ?_
        rintro e w5 ⟨ao, m5, c5, rfl, hm5, o5, hb5⟩
        have e1 : (((Gf.mul x (Gf.inv y) : Nat) : Int)).toNat = Gf.mul x (Gf.inv y) := by simp
        have e2 : ((rn : Int) - (dn : Int)).toNat = rn - dn := by omega
        rw [e1, e2] at hm5 o5
        clear e1 e2
        have Hm5 := hid hm5
        clear hm5
        have st4 := st1.kept g4 (.inr (by simp [Value.ownBlock]; exact fun h => hgq h.symm))
        have o24 := o2e.kept g4 (.inr (by simp [Value.ownBlock]; omega))
        have hs4 := g4.size
        have hs5 := hb5.size
        have hbf := (hbe.grown g4 hbe.size (fun k e => by cases e; omega)).trans (hb5.mono (by omega))
        have hs := Hstep.out
        rw [← Hdn.out] at hs
        go_wp2
        go_roundw
        case rel =>
          exact ⟨ao, m5, c5, _, _, rfl, Hm5, by have h1 := hs.2; have h2 := Hm5.out; have h3 := Hrs.out; rw [h2]; omega, ownsRow_mono o5 (by omega), ownsRow_below o24 hb5, ownsRow_below st4 hb5,
            (fun g hg => by subst hg; have := (o5.lt g rfl).1; omega), hs.1, hbf, by omega⟩
        case measure =>
          have h1 := hs.2
          have h2 := Hm5.out
          have h3 := Hrs.out
          show m5 < rn
          omega
      · have hlt' : rn < dn := by omega
        have hqall := hG.qall
        have HG := hid hG
        have hql := hG.qlen
        clear hG
        go_wp2_with fail
        refine (trimmed_any _ _ _ _ _ (Rd.ofOwn o3) hqall (by omega)).mono ?_
        rintro e w5 ⟨ao, m5, c5, rfl, hm5, o5, hb5⟩
        have Hm5 := hid hm5
        clear hm5
        have o15 := ownsRow_below o1 hb5
        go_wp2
        go_ret3
        have hsz5 := hbw.size
        exact ⟨qs', rs, ao, m5, c5, ra, rn, rc, rfl, HG.out, by have h1 := Hrs.out; have h2 := Hdn.out; omega, Hm5.out, Hrs.out, ownsRow_mono o5 hsz5, ownsRow_mono o15 (by omega), hbw.trans (hb5.mono hsz5)⟩
end Go.Proofs.Ytiejjjbnhkdfeaa
