/- FieldPoints: the walk of the law. -/
import Derived.Test.YtiejjjbnhkdfeaaThru
import Derived.Maps.AppendAt
namespace Go.Proofs.Ytiejjjbnhkdfeaa
set_option linter.unusedVariables false
open Go.RowKit

theorem pts_ev (p : List Nat) (fr n : Nat) (j : Nat) (h : j < n) : nth ((pts fr n).map (ev p)) j = ev p (nth (pts fr n) j) := by
  have hl : j < (pts fr n).length := by rw [pts_len]; exact h
  rw [nth_get (by simpa using hl), nth_get hl]
  simp
theorem ev_one (x : Nat) (hx : x < 256) : ev [1] x = 1 := by
  show Gf.mul 0 x ^^^ 1 = 1
  rw [Gf.zero_mul x hx]; rfl
theorem vals_all (p l : List Nat) (hp : AllB p) : AllB (l.map (ev p)) := by
  intro z hz
  obtain ⟨k, _, rfl⟩ := List.mem_map.1 hz
  exact ev_lt hp k

theorem own_slice' {w : World} {base e size : Nat} {v : Value} {n : Nat} {xs : List Value} (h : w.ownsRow base e size v n xs) :
    ∃ ao cap, v = .slice ao n cap ∧ (v = .slice none 0 0 ↔ ao = none) ∧ ∀ k, v.ownBlock = some k → base ≤ k ∧ k < w.heap.size := by
  rcases h.2 with ⟨rfl, rfl⟩ | ⟨g, cap, cur, rfl, hb, hg, _⟩
  · exact ⟨none, 0, rfl, by simp, fun k h => by simp [Value.ownBlock] at h⟩
  · exact ⟨_, cap, rfl, by simp, fun k h => by simp [Value.ownBlock] at h; subst h; exact ⟨hb, (Array.getElem?_eq_some_iff.1 hg).1⟩⟩

theorem points_big (pa qa : Option Addr) (pn pc qn qc x fr : Nat) (w : World) (hpn : pn ≤ 140737488355328) (hqn : qn ≤ 140737488355328) (h : 60 < pn ∨ 60 < qn) :
    Calls Try.prog 6 #[.slice pa pn pc, .slice qa qn qc, .int .u8 (x : Int), .int .u8 (fr : Int)] w fun e w' => e = .returned (.bool true) ∧ Below w.heap.size w w' := by
  by_cases h1 : 60 < pn
  · go_enter Try.func6, Try.ntmps6
    go_wp2
    go_ret
    exact ⟨rfl, Below.refl _ _⟩
  · have h2 : 60 < qn := by omega
    have h3 : decide (60 < (pn : Int)) = false := by simp; omega
    go_enter Try.func6, Try.ntmps6
    go_wp2
    go_ret
    exact ⟨rfl, Below.refl _ _⟩

set_option maxRecDepth 100000 in
set_option maxHeartbeats 4000000 in
theorem law_walk (pa qa : Option Addr) (pn pc qn qc x fr : Nat) (ps qs : List Nat) (w : World) (hp : Rd w pa pn pc (vb ps)) (hpb : AllB ps) (hq : Rd w qa qn qc (vb qs)) (hqb : AllB qs) (hx : x < 256) (hf : fr < 256) (hpn : pn ≤ 60) (hqn : qn ≤ 60) :
    Calls Try.prog 6 #[.slice pa pn pc, .slice qa qn qc, .int .u8 (x : Int), .int .u8 (fr : Int)] w fun e w' => e = .returned (.bool true) ∧ Below w.heap.size w w' := by
  have hpl : ps.length = pn := by have := hp.len; rwa [vb_len] at this
  have hql : qs.length = qn := by have := hq.len; rwa [vb_len] at this
  have Hpl := hid hpl
  have Hql := hid hql
  clear hpl hql
  obtain ⟨i0, hi0, hz0, hz1, hz2⟩ := info_parts Try.info5
  go_enter Try.func6, Try.ntmps6
  go_wp2_with fail
  refine (times_any pa qa pn pc qn qc ps qs _ hp hpb hq hqb (by omega) (by omega)).mono ?_
  rintro e w1 ⟨ta, tn, tc, rfl, htn, o1, b1⟩
  have htl : tn ≤ 120 := by have h1 := timesP_len_le qs ps; have h2 := Hpl.out; have h3 := Hql.out; omega
  have htb := timesP_all (ps := qs) hpb
  clear htn
  go_wp2_with fail
  refine (at_ok ta tn tc _ htb x hx (by omega) w1 (Rd.ofOwn o1)).mono ?_
  rintro e w2 ⟨⟨v1, rfl, hv1, E1⟩, b2⟩
  have B2 := b1.trans (b2.mono b1.size)
  go_wp2_with fail
  refine (at_ok pa pn pc ps hpb x hx (by omega) w2 (hp.below B2)).mono ?_
  rintro e w3 ⟨⟨v2, rfl, hv2, E2⟩, b3⟩
  have B3 := B2.trans (b3.mono B2.size)
  go_wp2_with fail
  refine (at_ok qa qn qc qs hqb x hx (by omega) w3 (hq.below B3)).mono ?_
  rintro e w4 ⟨⟨v3, rfl, hv3, E3⟩, b4⟩
  have B4 := B3.trans (b4.mono B3.size)
  have m1 : v1 = Gf.mul v2 v3 := by
    rw [E1.out, E2.out, E3.out, ev_cv ps qs (timesP qs ps) x hx hqb hpb (fun k => timesP_nth hqb k), Gf.mul_comm _ _ (ev_lt hqb x) (ev_lt hpb x)]
  have hmw := mul_walk v2 v3 w4 hv2 hv3
  rw [← m1] at hmw
  clear m1
  go_wp2_with fail
  refine hmw.mono ?_
  rintro e w5 ⟨rfl, rfl⟩
  clear hmw
  go_wp2_with fail
  refine (sum_any pa qa pn pc qn qc ps qs _ (hp.below B4) hpb (hq.below B4) hqb (by omega) (by omega)).mono ?_
  rintro e w6 ⟨sa, sn, sc, rfl, hsn, o6, b6⟩
  have B6 := B4.trans (b6.mono B4.size)
  have hsl : sn ≤ 60 := by
    have h1 : (sumP ps qs).length ≤ 60 := by
      unfold sumP
      refine Nat.le_trans (by rw [trim_len]; exact trimN_le _ _) ?_
      rw [addTo_len, addTo_len, List.length_replicate]
      have h2 := Hpl.out; have h3 := Hql.out; omega
    omega
  clear hsn
  have hsb := sumP_all (ps := ps) (qs := qs)
  go_wp2_with fail
  refine (at_ok sa sn sc _ hsb x hx (by omega) w6 (Rd.ofOwn o6)).mono ?_
  rintro e w7 ⟨⟨v4, rfl, hv4, E4⟩, b7⟩
  have B7 := B6.trans (b7.mono B6.size)
  go_wp2_with fail
  refine (at_ok pa pn pc ps hpb x hx (by omega) w7 (hp.below B7)).mono ?_
  rintro e w8 ⟨⟨v5, rfl, hv5, E5⟩, b8⟩
  have B8 := B7.trans (b8.mono B7.size)
  go_wp2_with fail
  refine (at_ok qa qn qc qs hqb x hx (by omega) w8 (hq.below B8)).mono ?_
  rintro e w9 ⟨⟨v6, rfl, hv6, E6⟩, b9⟩
  have B9 := B8.trans (b9.mono B8.size)
  have m2 : v4 = v5 ^^^ v6 := by
    rw [E4.out, E5.out, E6.out]
    exact ev_xor ps qs (sumP ps qs) x hx hpb hqb (sumP_nth hpb hqb)
  have u1 := u8_xor_nat v5 v6 hv5 hv6
  rw [← m2] at u1
  clear m2
  go_wp2_with fail
  clear o1 o6 b1 b2 b3 b4 b6 b7 b8 b9 B2 B3 B4 B6 B7 B8 u1 htb hsb htl hsl hv1 hv2 hv3 hv4 hv5 hv6 E1 E2 E3 E4 E5 E6
  go_loopw [11, 12, 13] (fun xv yv i wr => ∃ k : Nat, i = .int .i64 k ∧ k ≤ pn ∧ wr.ownsRow w.heap.size 5 1 xv k (vb (pts fr k)) ∧ wr.ownsRow w.heap.size 5 1 yv k (vb ((pts fr k).map (ev ps))) ∧ (∀ b, xv.ownBlock = some b → yv.ownBlock ≠ some b) ∧ Below w.heap.size w wr) (fun _ _ i _ => pn - (intOf i).toNat)
  case atStart => exact ⟨0, rfl, Nat.zero_le _, World.ownsRow_nil _ _ _ _, World.ownsRow_nil _ _ _ _, (fun b h => by cases h), B9⟩
  case round =>
    clear B9
    obtain ⟨k, rfl, hk, oX, oY, hap, hB⟩ := hrel
    by_cases hlt : k < pn
    · have t1 : (k : Int) < (pn : Int) := by omega
      obtain ⟨xa, xc, rfl, hxnil, hxb⟩ := own_slice' oX
      obtain ⟨ya, yc, rfl, hynil, hyb⟩ := own_slice' oY
      obtain ⟨z, hz⟩ : ∃ z, z = (fr + k * 3 % 256) % 256 := ⟨_, rfl⟩
      have hz1' : ((fr : Int) + (k : Int) * 3) % 256 = (z : Int) := by omega
      have hz2' : z < 256 := by omega
      have hps : pts fr (k + 1) = pts fr k ++ [z] := by rw [pts_succ, hz]
      have hps := hid hps
      have hap' : (Value.slice ya k yc).ownBlock = none ∨ (Value.slice ya k yc).ownBlock ≠ (Value.slice xa k xc).ownBlock := by
        cases hh : (Value.slice xa k xc).ownBlock with
        | none => cases hh2 : (Value.slice ya k yc).ownBlock with
          | none => exact .inl rfl
          | some b => exact .inr (by simp)
        | some b => exact .inr (hap b hh)
      clear hz
      go_wp2_with (at_builtin; refine hold ?_)
      unfold Hid
      have bA := below_alloc wr (.cells #[.int .u8 (z : Int)] 5)
      refine wpList_append_own_at _ rfl _ _ 30 rfl w.heap.size 5 i0 (.int .u8 0) 1 1 Try.underlying30 hi0 hz0 hz1 hz2 rfl (by decide) (.slice xa k xc) k _ rfl (ownsRow_below oX bA) ⟨wr.heap.size, 0, none⟩ 1 1 [.int .u8 (z : Int)] rfl rfl (one_new wr _ 5) (by simp [Value.oneCell']) (by unfold maxLen; omega) (by omega) (by have := hB.size; simp; omega) ?_
      intro xv W1 oX1 gX _ hob
      have oY1 := (ownsRow_below oY bA).kept gX hap'
      have hB1 := (hB.trans (bA.mono hB.size)).grown gX (by have := hB.size; simp; omega) (fun b e => (hxb b e).1)
      rw [show vb (pts fr k) ++ [Value.int .u8 (z : Int)] = vb (pts fr (k + 1)) by rw [hps.out, vb_append]; rfl] at oX1
      have hap1 : ∀ b, xv.ownBlock = some b → (Value.slice ya k yc).ownBlock ≠ some b := by
        intro b hb
        rcases hob with h | h
        · exact hap b (h.symm.trans hb)
        · rw [h] at hb
          intro hy
          have h1 := (hyb b hy).2
          simp at hb; omega
      obtain ⟨xa', xc', rfl, _, hxb'⟩ := own_slice' oX1
      have hWl : wr.heap.size ≤ W1.heap.size := by have := gX.size; simp at this; omega
      clear oX oY bA gX hob hap hap' hxnil hynil hB
      go_wp2_with fail
      refine (at_ok pa pn pc ps hpb z hz2' (by omega) W1 (hp.below hB1)).mono ?_
      rintro e W2 ⟨⟨va, rfl, hva, Hva⟩, b2⟩
      have oX2 := ownsRow_below oX1 b2
      have oY2 := ownsRow_below oY1 b2
      have hB2 := hB1.trans (b2.mono hB1.size)
      clear oX1 oY1 hB1
      go_wp2_with (at_builtin; refine hold ?_)
      unfold Hid
      have bA := below_alloc W2 (.cells #[.int .u8 (va : Int)] 5)
      refine wpList_append_own_at _ rfl _ _ 30 rfl w.heap.size 5 i0 (.int .u8 0) 1 1 Try.underlying30 hi0 hz0 hz1 hz2 rfl (by decide) (.slice ya k yc) k _ rfl (ownsRow_below oY2 bA) ⟨W2.heap.size, 0, none⟩ 1 1 [.int .u8 (va : Int)] rfl rfl (one_new W2 _ 5) (by simp [Value.oneCell']) (by unfold maxLen; omega) (by omega) (by have := hB2.size; simp; omega) ?_
      intro yv W3 oY3 gY _ hob
      have oX3 := (ownsRow_below oX2 bA).kept gY (by
        cases hh : (Value.slice xa' (k + 1) xc').ownBlock with
        | none => exact .inl rfl
        | some b => exact .inr (fun he => hap1 b hh he.symm))
      have hB3 := (hB2.trans (bA.mono hB2.size)).grown gY (by have := hB2.size; simp; omega) (fun b e => (hyb b e).1)
      rw [show vb ((pts fr k).map (ev ps)) ++ [Value.int .u8 (va : Int)] = vb ((pts fr (k + 1)).map (ev ps)) by rw [hps.out, List.map_append, vb_append, Hva.out]; rfl] at oY3
      have hap3 : ∀ b, (Value.slice xa' (k + 1) xc').ownBlock = some b → yv.ownBlock ≠ some b := by
        intro b hb
        rcases hob with h | h
        · rw [h]; exact hap1 b hb
        · rw [h]
          have h1 := (hxb' b hb).2
          have h2 := b2.size
          simp; omega
      clear oX2 oY2 bA gY hob hap1 hB2
      go_wp2_with fail
      go_roundw
      case rel => exact ⟨k + 1, by simp, by omega, oX3, oY3, hap3, hB3⟩
      case measure => simp [intOf]; omega
    · obtain rfl : k = pn := by omega
      obtain ⟨xa, xc, rfl, _, _⟩ := own_slice' oX
      obtain ⟨ya, yc, rfl, _, _⟩ := own_slice' oY
      have hXl := pts_len fr k
      go_wp2_with fail
      refine (through_ok xa ya k xc yc (pts fr k) ((pts fr k).map (ev ps)) (pts_all fr k) (vals_all ps _ hpb) hpn (pts_nodup fr k hpn) wr (Rd.ofOwn oX) (Rd.ofOwn oY)).mono ?_
      rintro e W1 ⟨⟨sa, sc, S, rfl, hS, oS⟩, b1⟩
      have hlaw : trim S = trim ps := through_law hS (pts_all fr k) (pts_nodup fr k hpn) hpb (by rw [hXl]; exact Nat.le_of_eq Hpl.out) (fun j hj => pts_ev ps fr k j (by rw [hXl] at hj; exact hj))
      have hlaw := hlaw.trans (sumP_nil ps hpb).symm
      rw [hlaw] at oS ⊢
      have hB1 := hB.trans (b1.mono hB.size)
      have hsl : (sumP ps []).length ≤ 60 := by
        rw [sumP_nil ps hpb]
        refine Nat.le_trans (by rw [trim_len]; exact trimN_le _ _) ?_
        have := Hpl.out; omega
      clear hS oX oY b1 hB hap hlaw hXl
      generalize hsn : (sumP ps []).length = sn at *
      clear hsn
      go_wp2_with fail
      refine wp_region_can_all [6, 11, 13] [0, 1, 2, 3, 4, 5, 6, 7, 8, 9, 10, 12, 11, 13, 14, 15, 16] Ext Ext.refl Ext.trans (by kernel_rfl) (by kernel_rfl) ?_
      have hdw : Below W1.heap.size W1 W1.drew := (Below.refl _ W1).drew
      have oSd : W1.drew.ownsRow wr.heap.size 5 1 (.slice sa sn sc) sn (vb (sumP ps [])) := oS.drew
      have hBd := hB1.trans (hdw.mono hB1.size)
      clear oS hB1 hdw
      generalize W1.drew = wd at *
      simp only [List.map_cons, List.map_nil, List.contains_cons, List.contains_nil, List.getD_cons_zero, List.getD_cons_succ, Nat.reduceBEq, Bool.or_false, Bool.or_true]
      have kv1 := run_str_ext (P := Try.prog) 30 5 9 Try.underlying30 Try.underlying5 Try.underlying9 (Rd.ofOwn oSd)
      repeat (refine wpL_do rfl (fun w' hw' => (by go_simp; rfl)) ?_; simp only [Act.put, List.setIfInBounds_toArray, List.set_cons_succ, List.set_cons_zero])
      refine wpL_call rfl (fun K hK => ?_)
      go_wp2_with fail
      refine (sum_any pa none k pc 0 0 ps [] _ (hp.below hBd) hpb (Rd.nil _) AllB.nil (by omega) (by omega)).mono ?_
      rintro e w2 ⟨ua, un, uc, rfl, hun, o2, b2⟩
      refine hK _ _ b2 ?_
      clear hK K hun
      try simp only [Act.put, List.setIfInBounds_toArray, List.set_cons_succ, List.set_cons_zero]
      have kv2 := run_str_ext (P := Try.prog) 30 5 9 Try.underlying30 Try.underlying5 Try.underlying9 (Rd.ofOwn o2)
      have hB2 := hBd.trans (b2.mono hBd.size)
      clear o2 b2 hBd oSd
      repeat (refine wpL_do rfl (fun w' hw' => (by go_simp; rfl)) ?_; simp only [Act.put, List.setIfInBounds_toArray, List.set_cons_succ, List.set_cons_zero])
      clear kv1 kv2
      refine wpL_call rfl (fun K hK => ?_)
      go_wp2_with fail
      refine hK _ _ (below_alloc _ _) ?_
      clear hK K
      try simp only [Act.put, List.setIfInBounds_toArray, List.set_cons_succ, List.set_cons_zero]
      have oO := World.ownsRow_lit (base := w2.heap.size) (e := 5) (size := 1) w2 #[.int .u8 1] 1 (Nat.le_refl _) (by unfold maxLen; omega) rfl
      have hB3 := hB2.trans ((below_alloc w2 (.cells #[.int .u8 1] 5)).mono hB2.size)
      repeat (refine wpL_do rfl (fun w' hw' => (by go_simp; rfl)) ?_; simp only [Act.put, List.setIfInBounds_toArray, List.set_cons_succ, List.set_cons_zero])
      refine wpL_call rfl (fun K hK => ?_)
      go_wp2_with fail
      refine (at_ok (some ⟨w2.heap.size, 0, none⟩) 1 1 [1] (fun y hy => by simp at hy; omega) x hx (by omega) _ (Rd.ofOwn oO)).mono ?_
      rintro e w3 ⟨⟨va, rfl, hva, Hva⟩, b3⟩
      have hv1 : va = 1 := Hva.out.trans (ev_one x hx)
      clear Hva
      subst hv1
      refine hK _ _ b3 ?_
      clear hK K
      try simp only [Act.put, List.setIfInBounds_toArray, List.set_cons_succ, List.set_cons_zero]
      repeat (refine wpL_do rfl (fun w' hw' => (by go_simp; rfl)) ?_; simp only [Act.put, List.setIfInBounds_toArray, List.set_cons_succ, List.set_cons_zero])
      refine wpL_nil ?_
      go_wp2_with fail
      go_ret
      exact ⟨rfl, hB3.trans (b3.mono hB3.size)⟩

theorem points_any (pa qa : Option Addr) (pn pc qn qc : Nat) (ps qs : List Nat) (x fr : Int) (w : World) (hp : Rd w pa pn pc (vb ps)) (hpb : AllB ps) (hq : Rd w qa qn qc (vb qs)) (hqb : AllB qs) (hx : 0 ≤ x ∧ x ≤ 255) (hf : 0 ≤ fr ∧ fr ≤ 255) (hpn : pn ≤ 140737488355328) (hqn : qn ≤ 140737488355328) :
    Calls Try.prog 6 #[.slice pa pn pc, .slice qa qn qc, .int .u8 x, .int .u8 fr] w fun e w' => e = .returned (.bool true) ∧ Below w.heap.size w w' := by
  obtain ⟨x, rfl⟩ := Int.eq_ofNat_of_zero_le hx.1
  obtain ⟨fr, rfl⟩ := Int.eq_ofNat_of_zero_le hf.1
  by_cases h : 60 < pn ∨ 60 < qn
  · exact points_big pa qa pn pc qn qc x fr w hpn hqn h
  · exact law_walk pa qa pn pc qn qc x fr ps qs w hp hpb hq hqb (by omega) (by omega) (by omega) (by omega)
end Go.Proofs.Ytiejjjbnhkdfeaa
