/- SolomonNear: the walk of the law. -/
import Derived.Test.YtendgihkjibbaaaNearP
namespace Go.Proofs.Ytendgihkjibbaaa
set_option linter.unusedVariables false
open Go.RowKit

theorem dec_size (wa : Option Addr) (wn wc : Nat) (c : Int) (v : Value) (w : World) (hno : ¬(1 ≤ c ∧ c ≤ 64 ∧ c < (wn : Int) ∧ (wn : Int) ≤ 255)) :
    Calls Try.prog 8 #[.slice wa wn wc, .int .i64 c, v] w fun e w' => e = .returned (.tuple #[.slice none 0 0, .slice none 0 0, .int .i64 1]) ∧ w' = w := by
  go_enter Try.func8, Try.ntmps8
  go_wp2_with fail
  refine (sized_no wn c w hno).mono ?_
  rintro e w' ⟨rfl, rfl⟩
  go_wp2
  go_ret3
  exact ⟨rfl, rfl⟩

theorem enc_one : strB (encw [1] 2) = ⟨#[1, 6, 8]⟩ := by kernel_rfl

set_option maxRecDepth 100000 in
set_option maxHeartbeats 4000000 in
theorem near_walk (wa : Option Addr) (wn wc : Nat) (ck : Int) (ws : List Nat) (w : World) (hw : Rd w wa wn wc (vb ws)) (hwb : AllB ws) (hwn : wn ≤ 140737488355328) :
    Calls Try.prog 4 #[.slice wa wn wc, .int .i64 ck] w fun e w' => e = .returned (.bool true) ∧ Below w.heap.size w w' := by
  have b0 := below_alloc w (.cells #[.int .u8 ((1 : Nat) : Int)] 5)
  have hlit := rd_lit w 1
  obtain ⟨W0, hW0⟩ : ∃ W0, W0 = w.alloc (.cells #[.int .u8 ((1 : Nat) : Int)] 5) := ⟨_, rfl⟩
  go_enter Try.func4, Try.ntmps4
  go_wp2_with fail
  refine (enc_ok _ 1 1 2 [1] _ hlit (fun y hy => by simp at hy; omega) (by omega) (by omega) (by omega) (by omega)).mono ?_
  rintro e W1 ⟨oa, oc, rfl, oo, B1⟩
  have B1 := b0.trans (B1.mono b0.size)
  have hcv := run_str_ext (P := Try.prog) 22 5 9 Try.underlying22 Try.underlying5 Try.underlying9 (Rd.ofOwn oo)
  rw [enc_one] at hcv
  have hcv := hcv W1 (Ext.refl _)
  have hw1 := hw.below B1
  clear oo b0 hlit hW0
  by_cases hsz : 1 ≤ ck ∧ ck ≤ 64 ∧ ck < (wn : Int) ∧ (wn : Int) ≤ 255
  · obtain ⟨s1, s2, s3, s4⟩ := hsz
    obtain ⟨c, rfl⟩ : ∃ c : Nat, ck = (c : Int) := ⟨ck.toNat, by omega⟩
    have hwl : ws.length = wn := by have := hw.len; rwa [vb_len] at this
    have hlaw := fun r => near_law ws c hwb (by omega) (by rw [hwl]; omega) (by rw [hwl]; omega) (r := r)
    rw [hwl] at hlaw
    clear hwl
    have hdec := fun u (hu : Below W1.heap.size W1 u) => dec_ok wa none wn wc 0 0 c ws [] u (hw1.below hu) hwb (by omega) (by omega) (by omega) (by omega) ⟨rfl, Nat.le_refl _, Nat.zero_le _, fun _ => rfl, fun h => by omega⟩ (fun h hh => by simp at hh) (by omega) (fun v _ => held_nil wn v (by omega))
    go_wp2_with fail
    refine (hdec _ (Below.refl _ _)).mono ?_
    clear hdec hcv
    rintro e W2 ⟨ha, B2⟩
    have hw2 := hw1.below B2
    have BB := B1.trans (B2.mono B1.size)
    clear hw1 B1 B2
    cases hd : dec ws c [] with
    | none =>
      rw [hd] at ha
      obtain rfl := ha
      go_wp2
      go_ret
      exact ⟨rfl, BB⟩
    | some r =>
      rw [hd] at ha
      obtain ⟨q1, q2, q3, q4⟩ := hlaw r hd
      clear hlaw hd
      obtain ⟨d, a⟩ := r
      obtain ⟨da, dk, ba, bk, rfl, hD, hA⟩ := ha
      simp only at q1 q2 q3 q4 hD hA
      have henc := enc_ok da (wn - c) dk c d W2 hD q2 (by omega) (by omega) (by omega) (by omega)
      have hxb := encw_allb d c q2
      have hxl : (encw d c).length = wn := by rw [encw_len _ _ (by omega), q1]; omega
      rw [show wn - c + c = wn by omega] at henc
      have Q4 := hid q4
      clear q4
      generalize encw d c = x at *
      have Hxl := hid hxl
      clear hxl hD q2 q1
      go_wp2_with fail
      refine henc.mono ?_
      rintro e W3 ⟨xa, xc, rfl, ox, B3⟩
      have hx3 := Rd.ofOwn ox
      have hw3 := hw2.below B3
      have hA3 := hA.below B3
      have B4 := BB.trans (B3.mono BB.size)
      clear ox henc hw2 hA BB B3
      have hal : (vi a).length = a.length := vi_len a
      obtain ⟨an, han⟩ : ∃ an, an = a.length := ⟨_, rfl⟩
      have Han := hid han
      rw [← han] at hA3 q3 ⊢
      clear hal han
      go_wp2
      go_loopw [12, 13] (fun kv i wr => ∃ m : Nat, m ≤ wn ∧ i = .int .i64 m ∧ kv = .int .i64 ((dif x ws m).length : Nat) ∧ Below W3.heap.size W3 wr) (fun _ i _ => wn - (intOf i).toNat)
      case atStart => exact ⟨0, by omega, rfl, rfl, Below.refl _ _⟩
      case round =>
        obtain ⟨m, hm, rfl, rfl, hB⟩ := hrel
        by_cases hlt : m < wn
        · obtain ⟨xb, xo, rfl, hxlt, hxc⟩ := (hx3.below hB).cell m hlt
          obtain ⟨wb, wo, rfl, hwlt, hwc⟩ := (hw3.below hB).cell m hlt
          have hx256 := nth_lt hxb m
          have hw256 := nth_lt hwb m
          have Hs := hid (dif_succ x ws m)
          have Hat := hid (dif_at x ws m wn hlt)
          have Hlen : Hid ((dif x ws m).length ≤ an) := by
            show _ ≤ _
            rw [Han.out, Q4.out]
            exact (dif_prefix x ws m wn hm).length_le
          generalize nth x m = u at *
          generalize nth ws m = v at *
          have hm64 : (m : Int) < (wn : Int) := by omega
          go_wp2
          refine wp_region_still_lit (by kernel_rfl) (by kernel_rfl) ?_
          repeat still_step
          refine wpStill_nil ?_
          have hBd : Below W3.heap.size W3 wr.drew := hB.drew
          by_cases hd : u = v
          · subst hd
            have Hs : Hid (dif x ws (m + 1) = dif x ws m) := by have h := Hs.out; rwa [if_pos rfl] at h
            have Hk : Hid ((dif x ws (m + 1)).length = (dif x ws m).length) := by show _ = _; rw [Hs.out]
            generalize (dif x ws m).length = k at *
            go_wp2
            go_roundw
            case rel => exact ⟨m + 1, by omega, by go_num, by rw [Hk.out], hBd⟩
            case measure => simp [intOf]; omega
          · have Hs : Hid (dif x ws (m + 1) = dif x ws m ++ [m]) := by have h := Hs.out; rwa [if_neg hd] at h
            obtain ⟨at1, at2⟩ := Hat.out hd
            rw [← Q4.out] at at1 at2
            rw [← Han.out] at at1
            have Hkl : Hid ((dif x ws (m + 1)).length = (dif x ws m).length + 1) := by show _ = _; rw [Hs.out, List.length_append]; rfl
            generalize (dif x ws m).length = k at *
            have hAd := hA3.below hBd
            obtain ⟨ab, ao, rfl, halt, hac⟩ := hAd.celli k at1
            rw [at2] at hac
            have huv : ((u : Int) != (v : Int)) = true := by simp; omega
            have hkan : (k : Int) < (an : Int) := by omega
            have Hat2 := hid at2
            clear at2
            go_wp2
            go_roundw
            case rel => exact ⟨m + 1, by omega, by go_num, by rw [Hkl.out]; go_num, hBd⟩
            case measure => simp [intOf]; omega
        · obtain rfl : m = wn := by omega
          rw [← Q4.out, ← Han.out]
          go_wp2
          go_ret
          exact ⟨rfl, B4.trans (hB.mono B4.size)⟩
  · go_wp2_with fail
    refine (dec_size wa wn wc ck _ _ hsz).mono ?_
    rintro e w' ⟨rfl, rfl⟩
    go_wp2
    go_ret
    exact ⟨rfl, B1⟩
end Go.Proofs.Ytendgihkjibbaaa
