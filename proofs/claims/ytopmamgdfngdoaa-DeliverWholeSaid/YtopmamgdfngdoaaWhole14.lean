/- deliver: Reply (printed by genrpl.py). -/
import Derived.Test.YtopmamgdfngdoaaWhole13
import Derived.Test.YtopmamgdfngdoaaWhole8
namespace Go.Proofs.Ytopmamgdfngdoaa
set_option linter.unusedVariables false
open Go.RowKit

set_option maxRecDepth 1000000 in
set_option maxHeartbeats 8000000 in
theorem reply_ng (D : DP) (hD : DOk D) (g : GS) (fa : Option Addr) (fc : Nat) (aa : Option Addr) (ac : Nat) (ga : Option Addr) (gc : Nat) (l : List Sp) (w : World) (hG : GI D.P g) (hG' : (replyG D.P g (.ng l)).1.ag.length ≤ 1000) (hM : GvT D w g fa fc aa ac) (hn1 : 1 ≤ l.length ∧ l.length ≤ 20) (h0 : RdS w ga l.length gc l) (hl : ∀ s ∈ l, vSp D.P.F s) :
    Calls Try.prog 16 #[.agg (gcells D g fa D.P.F fc aa g.ag.length ac), .agg #[.int .i64 4, .int .i64 7, .string { data := #[] }, .int .i64 0, .int .i64 0, .int .i64 0, .slice none 0 0, .slice ga l.length gc, .int .i64 0, .int .i64 0]] w fun e w' => GiveR D w w' (replyG D.P g (.ng l)).1 (replyG D.P g (.ng l)).2 e := by
  have b1 := below_alloc w (.cells (gcells D g fa D.P.F fc aa g.ag.length ac) 28)
  have A1 := heap_alloc_new w (.cells (gcells D g fa D.P.F fc aa g.ag.length ac) 28)
  generalize hV1 : w.alloc (.cells (gcells D g fa D.P.F fc aa g.ag.length ac) 28) = V1 at *
  have b2 := below_alloc V1 (.cells #[.int .i64 4, .int .i64 7, .string { data := #[] }, .int .i64 0, .int .i64 0, .int .i64 0, .slice none 0 0, .slice ga l.length gc, .int .i64 0, .int .i64 0] 60)
  have A2 := heap_alloc_new V1 (.cells #[.int .i64 4, .int .i64 7, .string { data := #[] }, .int .i64 0, .int .i64 0, .int .i64 0, .slice none 0 0, .slice ga l.length gc, .int .i64 0, .int .i64 0] 60)
  generalize hV2 : V1.alloc (.cells #[.int .i64 4, .int .i64 7, .string { data := #[] }, .int .i64 0, .int .i64 0, .int .i64 0, .slice none 0 0, .slice ga l.length gc, .int .i64 0, .int .i64 0] 60) = V2 at *
  have b3 := below_alloc V2 (.cells #[.int .i64 0, .string { data := #[] }, .slice none 0 0, .int .i64 0, .int .i64 0, .int .i64 0, .bool false, .int .i64 0, .slice none 0 0, .int .i64 0, .int .i64 0, .int .i64 0, .int .i64 0] 28)
  have A3 := heap_alloc_new V2 (.cells #[.int .i64 0, .string { data := #[] }, .slice none 0 0, .int .i64 0, .int .i64 0, .int .i64 0, .bool false, .int .i64 0, .slice none 0 0, .int .i64 0, .int .i64 0, .int .i64 0, .int .i64 0] 28)
  have A1' := row_below (row_below A1 b2) b3
  have A2' := row_below A2 b3
  have hs1 := b1.size
  have hs2 := b2.size
  have B3 := hid ((b1.trans (b2.mono b1.size)).trans (b3.mono (Nat.le_trans hs1 hs2)))
  have HM := hid ((hM.below b1).below b2)
  have hZ : w.heap.size ≤ V2.heap.size := Nat.le_trans hs1 hs2
  have H0' := hid ((h0.below b1).below b2)
  have HL := hid hl
  clear h0 hl
  clear hM b1 b2
  unfold gcells at A1 A1' hV1
  go_enter Try.func16, Try.ntmps16
  unfold gcells
  refine wp_seq_k (fun K0 hK0 => ?_)
  go_wp2_with fail
  refine hK0.out _ _ ?_
  clear hV1 hV2
  generalize V2.alloc (.cells #[.int .i64 0, .string { data := #[] }, .slice none 0 0, .int .i64 0, .int .i64 0, .int .i64 0, .bool false, .int .i64 0, .slice none 0 0, .int .i64 0, .int .i64 0, .int .i64 0, .int .i64 0] 28) = V3 at *
  have HM3 := hid (HM.out.below b3)
  have H0 := hid (H0'.out.below b3)
  clear H0'
  clear b3 HM A1 A2
  obtain ⟨Y, hY⟩ : ∃ Y, Y = w.heap.size := ⟨_, rfl⟩
  obtain ⟨N, hN⟩ : ∃ N, N = V1.heap.size := ⟨_, rfl⟩
  obtain ⟨Z, hZ'⟩ : ∃ Z, Z = V2.heap.size := ⟨_, rfl⟩
  rw [← hZ'] at A3 hZ ⊢
  rw [← hN] at A2' ⊢
  rw [← hY] at A1' ⊢
  have HY := hid hY
  clear hY hZ' hN hs1 hs2
  have htn := hid (fun (X : Nat) (A : GA) (W : World) (h1 : V3.heap.size ≤ X) (hb : Below V3.heap.size V3 W) (h2 : GW D W X V3.heap.size g A []) (hr : W.ownsRow V3.heap.size 84 2 (.slice A.aa g.ag.length A.ac) g.ag.length (spv g.ag)) => rep_ng D hD X V3.heap.size N g A [] ga gc l V3 W h1 rfl hb A2' h2 hr hG (Nat.zero_le _) hn1 H0.out HL.out)
  have hgv := hid (giving33 D hD g _ _ fa fc aa ac N V3 hG HM3.out (fun X A W h1 hb h2 hr => htn.out X A W h1 hb h2 hr) hG')
  unfold gcells at hgv
  refine wp_seq_k (fun K1 hK1 => ?_)
  go_wp2_with (with_reducible refine wpList_load_row (o := ⟨some 7, _, _, _, _, _⟩) rfl 28 _ rfl Y rfl 28 _ _ _ A1' Try.underlying28 rfl (by kernel_rfl) ?_)
  refine hgv.out.mono ?_
  intro e V4 hr
  obtain ⟨⟨fa', fc', aa', ac', oa, oc, vs, rfl, hm, hn, hk, hng⟩, hb⟩ := hr
  have AZ := row_below A3 hb
  have B4 := hid (B3.out.trans (hb.mono B3.out.size))
  have HN := hid (show NRow D V4 w.heap.size oa oc vs from ⟨ownsRow_mono hn.ow B3.out.size, hn.ns⟩)
  have HMr := hid hm
  have HK := hid hk
  have HNG := hid hng
  clear hm hn hk hng hb hgv htn A1' A2' A3 HM3 B3
  obtain ⟨m1, m2⟩ := set_whole (cs' := gcells D (replyG D.P g (.ng l)).1 fa' D.P.F fc' aa' (replyG D.P g (.ng l)).1.ag.length ac') AZ
  have s5 := Stays.ofSet m2 AZ (T := 5) (by decide)
  have s84 := Stays.ofSet m2 AZ (T := 84) (by decide)
  have HF := hid (HMr.out.stays s5 s84)
  have HO := hid (show NRow D _ w.heap.size oa oc vs from ⟨row_kept_own AZ HN.out.ow m2 (by decide), fun v hv => (HN.out.ns v hv).stays s5 s84⟩)
  have B14 := hid (B4.out.grown m2 B4.out.size (fun k e => by cases e; exact hZ))
  have HM1 := hid m1
  clear m1 m2 s5 s84 HN HMr B4
  go_wp2_with (with_reducible refine at_store 28 ?_)
  unfold Hid
  refine wpList_store_row rfl 28 _ _ rfl Z (gcells D (replyG D.P g (.ng l)).1 fa' D.P.F fc' aa' (replyG D.P g (.ng l)).1.ag.length ac') rfl rfl 28 _ AZ (by kernel_rfl) rfl (by unfold gcells; simp [Value.oneCell']) ?_
  clear AZ
  generalize V4.setRow Z _ = V5 at *
  go_wp2_with fail
  refine hK1.out _ _ ?_
  go_wp2_with fail
  refine bodyPost_ret (results_c2 (fn := Try.f16) rfl _ V5 Z 28 _ _ rfl HM1.out (by kernel_rfl) (by kernel_rfl)) rfl ?_
  exact ⟨⟨_, _, _, _, _, _, vs, rfl, HF.out, HO.out, HK.out, HNG.out⟩, B14.out⟩

set_option maxRecDepth 1000000 in
set_option maxHeartbeats 8000000 in
theorem reply_nd (D : DP) (hD : DOk D) (g : GS) (fa : Option Addr) (fc : Nat) (aa : Option Addr) (ac : Nat)  (w : World) (hG : GI D.P g) (hG' : (replyG D.P g (.nd)).1.ag.length ≤ 1000) (hM : GvT D w g fa fc aa ac)  :
    Calls Try.prog 16 #[.agg (gcells D g fa D.P.F fc aa g.ag.length ac), .agg #[.int .i64 5, .int .i64 7, .string { data := #[] }, .int .i64 0, .int .i64 0, .int .i64 0, .slice none 0 0, .slice none 0 0, .int .i64 0, .int .i64 0]] w fun e w' => GiveR D w w' (replyG D.P g (.nd)).1 (replyG D.P g (.nd)).2 e := by
  have b1 := below_alloc w (.cells (gcells D g fa D.P.F fc aa g.ag.length ac) 28)
  have A1 := heap_alloc_new w (.cells (gcells D g fa D.P.F fc aa g.ag.length ac) 28)
  generalize hV1 : w.alloc (.cells (gcells D g fa D.P.F fc aa g.ag.length ac) 28) = V1 at *
  have b2 := below_alloc V1 (.cells #[.int .i64 5, .int .i64 7, .string { data := #[] }, .int .i64 0, .int .i64 0, .int .i64 0, .slice none 0 0, .slice none 0 0, .int .i64 0, .int .i64 0] 60)
  have A2 := heap_alloc_new V1 (.cells #[.int .i64 5, .int .i64 7, .string { data := #[] }, .int .i64 0, .int .i64 0, .int .i64 0, .slice none 0 0, .slice none 0 0, .int .i64 0, .int .i64 0] 60)
  generalize hV2 : V1.alloc (.cells #[.int .i64 5, .int .i64 7, .string { data := #[] }, .int .i64 0, .int .i64 0, .int .i64 0, .slice none 0 0, .slice none 0 0, .int .i64 0, .int .i64 0] 60) = V2 at *
  have b3 := below_alloc V2 (.cells #[.int .i64 0, .string { data := #[] }, .slice none 0 0, .int .i64 0, .int .i64 0, .int .i64 0, .bool false, .int .i64 0, .slice none 0 0, .int .i64 0, .int .i64 0, .int .i64 0, .int .i64 0] 28)
  have A3 := heap_alloc_new V2 (.cells #[.int .i64 0, .string { data := #[] }, .slice none 0 0, .int .i64 0, .int .i64 0, .int .i64 0, .bool false, .int .i64 0, .slice none 0 0, .int .i64 0, .int .i64 0, .int .i64 0, .int .i64 0] 28)
  have A1' := row_below (row_below A1 b2) b3
  have A2' := row_below A2 b3
  have hs1 := b1.size
  have hs2 := b2.size
  have B3 := hid ((b1.trans (b2.mono b1.size)).trans (b3.mono (Nat.le_trans hs1 hs2)))
  have HM := hid ((hM.below b1).below b2)
  have hZ : w.heap.size ≤ V2.heap.size := Nat.le_trans hs1 hs2
  clear hM b1 b2
  unfold gcells at A1 A1' hV1
  go_enter Try.func16, Try.ntmps16
  unfold gcells
  refine wp_seq_k (fun K0 hK0 => ?_)
  go_wp2_with fail
  refine hK0.out _ _ ?_
  clear hV1 hV2
  generalize V2.alloc (.cells #[.int .i64 0, .string { data := #[] }, .slice none 0 0, .int .i64 0, .int .i64 0, .int .i64 0, .bool false, .int .i64 0, .slice none 0 0, .int .i64 0, .int .i64 0, .int .i64 0, .int .i64 0] 28) = V3 at *
  have HM3 := hid (HM.out.below b3)
  clear b3 HM A1 A2
  obtain ⟨Y, hY⟩ : ∃ Y, Y = w.heap.size := ⟨_, rfl⟩
  obtain ⟨N, hN⟩ : ∃ N, N = V1.heap.size := ⟨_, rfl⟩
  obtain ⟨Z, hZ'⟩ : ∃ Z, Z = V2.heap.size := ⟨_, rfl⟩
  rw [← hZ'] at A3 hZ ⊢
  rw [← hN] at A2' ⊢
  rw [← hY] at A1' ⊢
  have HY := hid hY
  clear hY hZ' hN hs1 hs2
  have htn := hid (fun (X : Nat) (A : GA) (W : World) (h1 : V3.heap.size ≤ X) (hb : Below V3.heap.size V3 W) (h2 : GW D W X V3.heap.size g A []) (hr : W.ownsRow V3.heap.size 84 2 (.slice A.aa g.ag.length A.ac) g.ag.length (spv g.ag)) => rep_nd D hD X V3.heap.size N g A []  V3 W h1 rfl hb A2' h2 hr hG (Nat.zero_le _) )
  have hgv := hid (giving33 D hD g _ _ fa fc aa ac N V3 hG HM3.out (fun X A W h1 hb h2 hr => htn.out X A W h1 hb h2 hr) hG')
  unfold gcells at hgv
  refine wp_seq_k (fun K1 hK1 => ?_)
  go_wp2_with (with_reducible refine wpList_load_row (o := ⟨some 7, _, _, _, _, _⟩) rfl 28 _ rfl Y rfl 28 _ _ _ A1' Try.underlying28 rfl (by kernel_rfl) ?_)
  refine hgv.out.mono ?_
  intro e V4 hr
  obtain ⟨⟨fa', fc', aa', ac', oa, oc, vs, rfl, hm, hn, hk, hng⟩, hb⟩ := hr
  have AZ := row_below A3 hb
  have B4 := hid (B3.out.trans (hb.mono B3.out.size))
  have HN := hid (show NRow D V4 w.heap.size oa oc vs from ⟨ownsRow_mono hn.ow B3.out.size, hn.ns⟩)
  have HMr := hid hm
  have HK := hid hk
  have HNG := hid hng
  clear hm hn hk hng hb hgv htn A1' A2' A3 HM3 B3
  obtain ⟨m1, m2⟩ := set_whole (cs' := gcells D (replyG D.P g (.nd)).1 fa' D.P.F fc' aa' (replyG D.P g (.nd)).1.ag.length ac') AZ
  have s5 := Stays.ofSet m2 AZ (T := 5) (by decide)
  have s84 := Stays.ofSet m2 AZ (T := 84) (by decide)
  have HF := hid (HMr.out.stays s5 s84)
  have HO := hid (show NRow D _ w.heap.size oa oc vs from ⟨row_kept_own AZ HN.out.ow m2 (by decide), fun v hv => (HN.out.ns v hv).stays s5 s84⟩)
  have B14 := hid (B4.out.grown m2 B4.out.size (fun k e => by cases e; exact hZ))
  have HM1 := hid m1
  clear m1 m2 s5 s84 HN HMr B4
  go_wp2_with (with_reducible refine at_store 28 ?_)
  unfold Hid
  refine wpList_store_row rfl 28 _ _ rfl Z (gcells D (replyG D.P g (.nd)).1 fa' D.P.F fc' aa' (replyG D.P g (.nd)).1.ag.length ac') rfl rfl 28 _ AZ (by kernel_rfl) rfl (by unfold gcells; simp [Value.oneCell']) ?_
  clear AZ
  generalize V4.setRow Z _ = V5 at *
  go_wp2_with fail
  refine hK1.out _ _ ?_
  go_wp2_with fail
  refine bodyPost_ret (results_c2 (fn := Try.f16) rfl _ V5 Z 28 _ _ rfl HM1.out (by kernel_rfl) (by kernel_rfl)) rfl ?_
  exact ⟨⟨_, _, _, _, _, _, vs, rfl, HF.out, HO.out, HK.out, HNG.out⟩, B14.out⟩

set_option maxRecDepth 1000000 in
set_option maxHeartbeats 8000000 in
theorem reply_se (D : DP) (hD : DOk D) (g : GS) (fa : Option Addr) (fc : Nat) (aa : Option Addr) (ac : Nat)  (w : World) (hG : GI D.P g) (hG' : (replyG D.P g (.se)).1.ag.length ≤ 1000) (hM : GvT D w g fa fc aa ac)  :
    Calls Try.prog 16 #[.agg (gcells D g fa D.P.F fc aa g.ag.length ac), .agg #[.int .i64 6, .int .i64 7, .string { data := #[] }, .int .i64 0, .int .i64 0, .int .i64 0, .slice none 0 0, .slice none 0 0, .int .i64 3, .int .i64 0]] w fun e w' => GiveR D w w' (replyG D.P g (.se)).1 (replyG D.P g (.se)).2 e := by
  have b1 := below_alloc w (.cells (gcells D g fa D.P.F fc aa g.ag.length ac) 28)
  have A1 := heap_alloc_new w (.cells (gcells D g fa D.P.F fc aa g.ag.length ac) 28)
  generalize hV1 : w.alloc (.cells (gcells D g fa D.P.F fc aa g.ag.length ac) 28) = V1 at *
  have b2 := below_alloc V1 (.cells #[.int .i64 6, .int .i64 7, .string { data := #[] }, .int .i64 0, .int .i64 0, .int .i64 0, .slice none 0 0, .slice none 0 0, .int .i64 3, .int .i64 0] 60)
  have A2 := heap_alloc_new V1 (.cells #[.int .i64 6, .int .i64 7, .string { data := #[] }, .int .i64 0, .int .i64 0, .int .i64 0, .slice none 0 0, .slice none 0 0, .int .i64 3, .int .i64 0] 60)
  generalize hV2 : V1.alloc (.cells #[.int .i64 6, .int .i64 7, .string { data := #[] }, .int .i64 0, .int .i64 0, .int .i64 0, .slice none 0 0, .slice none 0 0, .int .i64 3, .int .i64 0] 60) = V2 at *
  have b3 := below_alloc V2 (.cells #[.int .i64 0, .string { data := #[] }, .slice none 0 0, .int .i64 0, .int .i64 0, .int .i64 0, .bool false, .int .i64 0, .slice none 0 0, .int .i64 0, .int .i64 0, .int .i64 0, .int .i64 0] 28)
  have A3 := heap_alloc_new V2 (.cells #[.int .i64 0, .string { data := #[] }, .slice none 0 0, .int .i64 0, .int .i64 0, .int .i64 0, .bool false, .int .i64 0, .slice none 0 0, .int .i64 0, .int .i64 0, .int .i64 0, .int .i64 0] 28)
  have A1' := row_below (row_below A1 b2) b3
  have A2' := row_below A2 b3
  have hs1 := b1.size
  have hs2 := b2.size
  have B3 := hid ((b1.trans (b2.mono b1.size)).trans (b3.mono (Nat.le_trans hs1 hs2)))
  have HM := hid ((hM.below b1).below b2)
  have hZ : w.heap.size ≤ V2.heap.size := Nat.le_trans hs1 hs2
  clear hM b1 b2
  unfold gcells at A1 A1' hV1
  go_enter Try.func16, Try.ntmps16
  unfold gcells
  refine wp_seq_k (fun K0 hK0 => ?_)
  go_wp2_with fail
  refine hK0.out _ _ ?_
  clear hV1 hV2
  generalize V2.alloc (.cells #[.int .i64 0, .string { data := #[] }, .slice none 0 0, .int .i64 0, .int .i64 0, .int .i64 0, .bool false, .int .i64 0, .slice none 0 0, .int .i64 0, .int .i64 0, .int .i64 0, .int .i64 0] 28) = V3 at *
  have HM3 := hid (HM.out.below b3)
  clear b3 HM A1 A2
  obtain ⟨Y, hY⟩ : ∃ Y, Y = w.heap.size := ⟨_, rfl⟩
  obtain ⟨N, hN⟩ : ∃ N, N = V1.heap.size := ⟨_, rfl⟩
  obtain ⟨Z, hZ'⟩ : ∃ Z, Z = V2.heap.size := ⟨_, rfl⟩
  rw [← hZ'] at A3 hZ ⊢
  rw [← hN] at A2' ⊢
  rw [← hY] at A1' ⊢
  have HY := hid hY
  clear hY hZ' hN hs1 hs2
  have htn := hid (fun (X : Nat) (A : GA) (W : World) (h1 : V3.heap.size ≤ X) (hb : Below V3.heap.size V3 W) (h2 : GW D W X V3.heap.size g A []) (hr : W.ownsRow V3.heap.size 84 2 (.slice A.aa g.ag.length A.ac) g.ag.length (spv g.ag)) => rep_se D hD X V3.heap.size N g A []  V3 W h1 rfl hb A2' h2 hr hG (Nat.zero_le _) )
  have hgv := hid (giving33 D hD g _ _ fa fc aa ac N V3 hG HM3.out (fun X A W h1 hb h2 hr => htn.out X A W h1 hb h2 hr) hG')
  unfold gcells at hgv
  refine wp_seq_k (fun K1 hK1 => ?_)
  go_wp2_with (with_reducible refine wpList_load_row (o := ⟨some 7, _, _, _, _, _⟩) rfl 28 _ rfl Y rfl 28 _ _ _ A1' Try.underlying28 rfl (by kernel_rfl) ?_)
  refine hgv.out.mono ?_
  intro e V4 hr
  obtain ⟨⟨fa', fc', aa', ac', oa, oc, vs, rfl, hm, hn, hk, hng⟩, hb⟩ := hr
  have AZ := row_below A3 hb
  have B4 := hid (B3.out.trans (hb.mono B3.out.size))
  have HN := hid (show NRow D V4 w.heap.size oa oc vs from ⟨ownsRow_mono hn.ow B3.out.size, hn.ns⟩)
  have HMr := hid hm
  have HK := hid hk
  have HNG := hid hng
  clear hm hn hk hng hb hgv htn A1' A2' A3 HM3 B3
  obtain ⟨m1, m2⟩ := set_whole (cs' := gcells D (replyG D.P g (.se)).1 fa' D.P.F fc' aa' (replyG D.P g (.se)).1.ag.length ac') AZ
  have s5 := Stays.ofSet m2 AZ (T := 5) (by decide)
  have s84 := Stays.ofSet m2 AZ (T := 84) (by decide)
  have HF := hid (HMr.out.stays s5 s84)
  have HO := hid (show NRow D _ w.heap.size oa oc vs from ⟨row_kept_own AZ HN.out.ow m2 (by decide), fun v hv => (HN.out.ns v hv).stays s5 s84⟩)
  have B14 := hid (B4.out.grown m2 B4.out.size (fun k e => by cases e; exact hZ))
  have HM1 := hid m1
  clear m1 m2 s5 s84 HN HMr B4
  go_wp2_with (with_reducible refine at_store 28 ?_)
  unfold Hid
  refine wpList_store_row rfl 28 _ _ rfl Z (gcells D (replyG D.P g (.se)).1 fa' D.P.F fc' aa' (replyG D.P g (.se)).1.ag.length ac') rfl rfl 28 _ AZ (by kernel_rfl) rfl (by unfold gcells; simp [Value.oneCell']) ?_
  clear AZ
  generalize V4.setRow Z _ = V5 at *
  go_wp2_with fail
  refine hK1.out _ _ ?_
  go_wp2_with fail
  refine bodyPost_ret (results_c2 (fn := Try.f16) rfl _ V5 Z 28 _ _ rfl HM1.out (by kernel_rfl) (by kernel_rfl)) rfl ?_
  exact ⟨⟨_, _, _, _, _, _, vs, rfl, HF.out, HO.out, HK.out, HNG.out⟩, B14.out⟩
/-- Reply, whatever note comes up -/
theorem Reply_ok (D : DP) (hD : DOk D) (g : GS) (fa : Option Addr) (fc : Nat) (aa : Option Addr) (ac : Nat) (v : NV) (gs ts : Nat) (w : World) (hG : GI D.P g) (hG' : (replyG D.P g v.k).1.ag.length ≤ 1000) (hM : GvT D w g fa fc aa ac) (hv : vU D.P gs ts v.k) (hm : NVM D w v) :
    Calls Try.prog 16 #[.agg (gcells D g fa D.P.F fc aa g.ag.length ac), .agg (ncl D v).toArray] w fun e w' => GiveR D w w' (replyG D.P g v.k).1 (replyG D.P g v.k).2 e := by
  obtain ⟨k, a, c⟩ := v
  cases k with
  | ng l => exact reply_ng D hD g fa fc aa ac a c l w hG hG' hM ⟨by have := hv.1; cases l with | nil => exact absurd rfl this | cons s r => exact Nat.succ_pos _, hv.2.1⟩ hm hv.2.2.1
  | nd => exact reply_nd D hD g fa fc aa ac w hG hG' hM
  | se => exact reply_se D hD g fa fc aa ac w hG hG' hM
  | nm => exact absurd hv id
  | np x y => exact absurd hv id
  | ne => exact absurd hv id
  | sd => exact absurd hv id
end Go.Proofs.Ytopmamgdfngdoaa
/- deliver: the taker says (printed by gennot.py 46). -/
namespace Go.Proofs.Ytopmamgdfngdoaa
set_option linter.unusedVariables false
open Go.RowKit
/-- something is said -/
structure Say46 (D : DP) (W0 W : World) (X B : Nat) (cs : Array Value) (o : List NV) (v : NV) (e : Ending) : Prop where
  he : e = .returned (.tuple #[])
  ex : ∃ oa oc, W.heap[X]? = some (.cells (cs.setIfInBounds 14 (.slice oa (o.length + 1) oc)) 72) ∧ W.ownsRow B 60 10 (.slice oa (o.length + 1) oc) (o.length + 1) ((o ++ [v]).flatMap (ncl D))
  blw : Below B W0 W
  st : ∀ T, T ≠ 72 → T ≠ 60 → Stays T W0 W
  nb : ∀ u, cs[14]? = some u → ∀ N, N < W0.heap.size → N ≠ X → u.ownBlock ≠ some N → W.heap[N]? = W0.heap[N]?
set_option maxRecDepth 1000000 in
set_option maxHeartbeats 8000000 in
theorem say46_ok (D : DP) (X B : Nat) (cs : Array Value) (o : List NV) (v : NV) (oa : Option Addr) (oc : Nat) (w : World) (hB : B ≤ X) (hX : w.heap[X]? = some (.cells cs 72)) (h0 : cs[0]? = some (.int .i64 7)) (h13 : cs[14]? = some (.slice oa o.length oc)) (ho : w.ownsRow B 60 10 (.slice oa o.length oc) o.length (o.flatMap (ncl D))) (hn : o.length ≤ 100000) :
    Calls Try.prog 46 #[.pointer (some ⟨X, 0, none⟩), .agg (ncI D 0 v).toArray] w fun e w' => Say46 D w w' X B cs o v e := by
  obtain ⟨i0, hi, hz0, hz1, hz2⟩ := info_parts Try.info60
  obtain ⟨da, dn, dc, hda⟩ := ndata_slice v
  obtain ⟨ga, gn, gc, hga⟩ := ngaps_slice v
  have E1 : Hid ((o ++ [v]).flatMap (ncl D) = o.flatMap (ncl D) ++ [.int .i64 (nkind v.k), .int .i64 7, .string (nname v.k), .int .i64 (nsize D v.k), .int .i64 (nsum D v.k), .int .i64 (nat_ v.k), .slice da dn dc, .slice ga gn gc, .int .i64 (nof v.k), .int .i64 0]) := by
    show (o ++ [v]).flatMap (ncl D) = _
    rw [flat_snoc]
    unfold ncl ncI
    rw [hda, hga]
  unfold ncI
  rw [hda, hga]
  have bN := below_alloc w (.cells #[.int .i64 (nkind v.k), .int .i64 0, .string (nname v.k), .int .i64 (nsize D v.k), .int .i64 (nsum D v.k), .int .i64 (nat_ v.k), .slice da dn dc, .slice ga gn gc, .int .i64 (nof v.k), .int .i64 0] 60)
  have A := hid (heap_alloc_new w (.cells #[.int .i64 (nkind v.k), .int .i64 0, .string (nname v.k), .int .i64 (nsize D v.k), .int .i64 (nsum D v.k), .int .i64 (nat_ v.k), .slice da dn dc, .slice ga gn gc, .int .i64 (nof v.k), .int .i64 0] 60))
  have hXw := row_lt hX
  have hob : ∀ k, (Value.slice oa o.length oc).ownBlock = some k → B ≤ k ∧ k < w.heap.size := ho.lt
  have HX := hid (row_below hX bN)
  have HO := hid (ownsRow_below ho bN)
  have HB := hid (bN.mono (Nat.le_trans hB (Nat.le_of_lt hXw)))
  have HS := hid (fun T (_ : T ≠ 72) (_ : T ≠ 60) => (Stays.ofBelow bN : Stays T w _))
  have HN := hid (fun N (h1 : N < w.heap.size) => bN.block N h1)
  obtain ⟨l, hl⟩ : ∃ l, l = o.flatMap (ncl D) := ⟨_, rfl⟩
  have hol : (o.flatMap (ncl D)).length = o.length * 10 := flat_len (ncl D) 10 (ncl_len D) o
  obtain ⟨on, hon⟩ : ∃ on, on = o.length := ⟨_, rfl⟩
  rw [← hl, ← hon] at HO
  rw [← hl] at E1
  rw [← hon] at h13 hn hob
  have Hon := hid hon
  generalize nkind v.k = f0 at *
  generalize nname v.k = f2 at *
  generalize nsize D v.k = f3 at *
  generalize nsum D v.k = f4 at *
  generalize nat_ v.k = f5 at *
  generalize nof v.k = f8 at *
  clear bN hX ho hda hga hl hol hon
  go_enter Try.func46, Try.ntmps46
  refine wp_seq_k (fun K0 hK0 => ?_)
  go_wp2_with fail
  refine hK0.out _ _ ?_
  obtain ⟨Y, hY⟩ : ∃ Y, Y = w.heap.size := ⟨_, rfl⟩
  rw [← hY] at A hXw hob ⊢
  have hYB : B ≤ Y := by omega
  have HYe := hid hY
  rw [← hY] at HN
  clear hY
  generalize w.alloc (.cells #[.int .i64 f0, .int .i64 0, .string f2, .int .i64 f3, .int .i64 f4, .int .i64 f5, .slice da dn dc, .slice ga gn gc, .int .i64 f8, .int .i64 0] 60) = V at *
  -- the number
  have c0 : V.cell? ⟨X, 0, none⟩ = some (.int .i64 7) := by rw [cell_of_row _ _ _ _ _ _ HX.out]; exact h0
  have y1 : V.cell? ⟨Y, 1, none⟩ = some (.int .i64 0) := by rw [cell_of_row _ _ _ _ _ _ (Hid.out A)]; rfl
  have fz := frozen_row (Hid.out A) 1
  obtain ⟨m1, m2⟩ := set_row (cs' := #[.int .i64 f0, .int .i64 7, .string f2, .int .i64 f3, .int .i64 f4, .int .i64 f5, .slice da dn dc, .slice ga gn gc, .int .i64 f8, .int .i64 0]) (Hid.out A) 1 (.int .i64 7) rfl
  have HX1 := hid (row_grown HX.out m2 (by omega))
  have HN1 := hid (fun N (h1 : N < Y) => (m2.block N (Nat.lt_of_lt_of_le h1 (Nat.le_of_lt (row_lt (Hid.out A)))) (fun e => by cases e; omega)).trans (HN.out N h1))
  have HS1 := hid (fun T (h1 : T ≠ 72) (h2 : T ≠ 60) => (HS.out T h1 h2).trans (Stays.ofSet m2 (Hid.out A) h2))
  have HB1 := hid (HB.out.grown m2 (by have := HB.out.size; have := row_lt HX.out; omega) (fun k e => by cases e; exact hYB))
  have A1 := hid m1
  have HO1 := hid (HO.out.kept m2 (.inr (fun e => by have := (hob _ e).2; omega)))
  clear m1 m2 HX HS HB A HO HN
  refine wp_seq_k (fun K1 hK1 => ?_)
  go_wp2_with fail
  refine hK1.out _ _ ?_
  clear c0 y1 fz
  generalize V.setCell ⟨Y, 1, none⟩ (.int .i64 7) = V2 at *
  -- it is laid behind the others
  refine wp_region_can 10 [6, 7] [0, 1, 2, 3, 4, 5, 6, 7, 8, 9] (fun u u' => u'.heap[Y]? = u.heap[Y]? ∧ u'.cell? ⟨X, 14, none⟩ = u.cell? ⟨X, 14, none⟩) (fun _ => ⟨rfl, rfl⟩) (fun _ _ _ h k => ⟨k.1.trans h.1, k.2.trans h.2⟩) (by kernel_rfl) (by kernel_rfl) ?_
  simp only [List.map_cons, List.map_nil, List.contains_cons, List.contains_nil, List.getD_cons_zero, List.getD_cons_succ, Nat.reduceBEq, Bool.or_false, Bool.or_true]
  have hdr := (Below.refl V2.heap.size V2).drew
  have HX2 := hid (row_below HX1.out hdr)
  have HN2 := hid (fun N (h1 : N < Y) => (hdr.block N (Nat.lt_trans h1 (row_lt A1.out))).trans (HN1.out N h1))
  have HS2 := hid (fun T (h1 : T ≠ 72) (h2 : T ≠ 60) => (HS1.out T h1 h2).trans (Stays.ofBelow hdr))
  have HB2 := hid (HB1.out.trans (hdr.mono (by have := row_lt HX1.out; omega)))
  have A2 := hid (row_below A1.out hdr)
  have HO2 := hid (ownsRow_below HO1.out hdr)
  clear hdr HX1 HS1 HB1 A1 HO1 HN1
  generalize V2.drew = U at *
  have x13 : ∀ w' : World, (w'.heap[Y]? = U.heap[Y]? ∧ w'.cell? ⟨X, 14, none⟩ = U.cell? ⟨X, 14, none⟩) → w'.cell? ⟨X, 14, none⟩ = some (.slice oa on oc) := fun w' h => by rw [h.2, cell_of_row _ _ _ _ _ _ HX2.out]; exact h13
  have y0 : ∀ w' : World, (w'.heap[Y]? = U.heap[Y]? ∧ w'.cell? ⟨X, 14, none⟩ = U.cell? ⟨X, 14, none⟩) → w'.cell? ⟨Y, 0, none⟩ = some (.int .i64 f0) := fun w' h => by rw [cell_of_row _ _ _ _ _ _ (h.1.trans A2.out)]; rfl
  have y1 : ∀ w' : World, (w'.heap[Y]? = U.heap[Y]? ∧ w'.cell? ⟨X, 14, none⟩ = U.cell? ⟨X, 14, none⟩) → w'.cell? ⟨Y, 1, none⟩ = some (.int .i64 7) := fun w' h => by rw [cell_of_row _ _ _ _ _ _ (h.1.trans A2.out)]; rfl
  have y2 : ∀ w' : World, (w'.heap[Y]? = U.heap[Y]? ∧ w'.cell? ⟨X, 14, none⟩ = U.cell? ⟨X, 14, none⟩) → w'.cell? ⟨Y, 2, none⟩ = some (.string f2) := fun w' h => by rw [cell_of_row _ _ _ _ _ _ (h.1.trans A2.out)]; rfl
  have y3 : ∀ w' : World, (w'.heap[Y]? = U.heap[Y]? ∧ w'.cell? ⟨X, 14, none⟩ = U.cell? ⟨X, 14, none⟩) → w'.cell? ⟨Y, 3, none⟩ = some (.int .i64 f3) := fun w' h => by rw [cell_of_row _ _ _ _ _ _ (h.1.trans A2.out)]; rfl
  have y4 : ∀ w' : World, (w'.heap[Y]? = U.heap[Y]? ∧ w'.cell? ⟨X, 14, none⟩ = U.cell? ⟨X, 14, none⟩) → w'.cell? ⟨Y, 4, none⟩ = some (.int .i64 f4) := fun w' h => by rw [cell_of_row _ _ _ _ _ _ (h.1.trans A2.out)]; rfl
  have y5 : ∀ w' : World, (w'.heap[Y]? = U.heap[Y]? ∧ w'.cell? ⟨X, 14, none⟩ = U.cell? ⟨X, 14, none⟩) → w'.cell? ⟨Y, 5, none⟩ = some (.int .i64 f5) := fun w' h => by rw [cell_of_row _ _ _ _ _ _ (h.1.trans A2.out)]; rfl
  have y6 : ∀ w' : World, (w'.heap[Y]? = U.heap[Y]? ∧ w'.cell? ⟨X, 14, none⟩ = U.cell? ⟨X, 14, none⟩) → w'.cell? ⟨Y, 6, none⟩ = some (.slice da dn dc) := fun w' h => by rw [cell_of_row _ _ _ _ _ _ (h.1.trans A2.out)]; rfl
  have y7 : ∀ w' : World, (w'.heap[Y]? = U.heap[Y]? ∧ w'.cell? ⟨X, 14, none⟩ = U.cell? ⟨X, 14, none⟩) → w'.cell? ⟨Y, 7, none⟩ = some (.slice ga gn gc) := fun w' h => by rw [cell_of_row _ _ _ _ _ _ (h.1.trans A2.out)]; rfl
  have y8 : ∀ w' : World, (w'.heap[Y]? = U.heap[Y]? ∧ w'.cell? ⟨X, 14, none⟩ = U.cell? ⟨X, 14, none⟩) → w'.cell? ⟨Y, 8, none⟩ = some (.int .i64 f8) := fun w' h => by rw [cell_of_row _ _ _ _ _ _ (h.1.trans A2.out)]; rfl
  have y9 : ∀ w' : World, (w'.heap[Y]? = U.heap[Y]? ∧ w'.cell? ⟨X, 14, none⟩ = U.cell? ⟨X, 14, none⟩) → w'.cell? ⟨Y, 9, none⟩ = some (.int .i64 0) := fun w' h => by rw [cell_of_row _ _ _ _ _ _ (h.1.trans A2.out)]; rfl
  iterate 6 (refine wpL_do rfl (fun w' hw' => (by go_simp; rfl)) ?_; simp only [Act.put, List.setIfInBounds_toArray, List.set_cons_succ, List.set_cons_zero])
  clear y0 y1 y2 y3 y4 y5 y6 y7 y8 y9 x13
  have hXU := row_lt HX2.out
  have hYU := row_lt A2.out
  have b3 := below_alloc U (.cells #[.int .i64 f0, .int .i64 7, .string f2, .int .i64 f3, .int .i64 f4, .int .i64 f5, .slice da dn dc, .slice ga gn gc, .int .i64 f8, .int .i64 0] 60)
  have N3 := heap_alloc_new U (.cells #[.int .i64 f0, .int .i64 7, .string f2, .int .i64 f3, .int .i64 f4, .int .i64 f5, .slice da dn dc, .slice ga gn gc, .int .i64 f8, .int .i64 0] 60)
  refine wpL_call rfl (fun K hK => ?_)
  go_wp2_with fail
  refine hK _ _ ⟨b3.block _ hYU, World.cell?_of_block (a := ⟨X, 14, none⟩) (b3.block _ hXU)⟩ ?_
  clear hK K
  try simp only [Act.put, List.setIfInBounds_toArray, List.set_cons_succ, List.set_cons_zero]
  have hnew : ∀ (j : Nat) (u : Value), ([.int .i64 f0, .int .i64 7, .string f2, .int .i64 f3, .int .i64 f4, .int .i64 f5, .slice da dn dc, .slice ga gn gc, .int .i64 f8, .int .i64 0] : List Value)[j]? = some u → (U.alloc (.cells #[.int .i64 f0, .int .i64 7, .string f2, .int .i64 f3, .int .i64 f4, .int .i64 f5, .slice da dn dc, .slice ga gn gc, .int .i64 f8, .int .i64 0] 60)).cell? ((⟨U.heap.size, 0, none⟩ : Addr).add j) = some u := new_cells U [.int .i64 f0, .int .i64 7, .string f2, .int .i64 f3, .int .i64 f4, .int .i64 f5, .slice da dn dc, .slice ga gn gc, .int .i64 f8, .int .i64 0] 60
  have HX3 := hid (row_below HX2.out b3)
  have HN3 := hid (fun N (h1 : N < Y) => (b3.block N (Nat.lt_trans h1 hYU)).trans (HN2.out N h1))
  have HS3 := hid (fun T (h1 : T ≠ 72) (h2 : T ≠ 60) => (HS2.out T h1 h2).trans (Stays.ofBelow b3))
  have HB3 := hid (HB2.out.trans (b3.mono (by have := row_lt HX2.out; omega)))
  have A3 := hid (row_below A2.out b3)
  have HO3 := hid (ownsRow_below HO2.out b3)
  have hYU3 : Y < (U.alloc (.cells #[.int .i64 f0, .int .i64 7, .string f2, .int .i64 f3, .int .i64 f4, .int .i64 f5, .slice da dn dc, .slice ga gn gc, .int .i64 f8, .int .i64 0] 60)).heap.size := Nat.lt_of_lt_of_le hYU b3.size
  have hXU3 : X < (U.alloc (.cells #[.int .i64 f0, .int .i64 7, .string f2, .int .i64 f3, .int .i64 f4, .int .i64 f5, .slice da dn dc, .slice ga gn gc, .int .i64 f8, .int .i64 0] 60)).heap.size := Nat.lt_of_lt_of_le hXU b3.size
  obtain ⟨Z, hZ⟩ : ∃ Z, Z = U.heap.size := ⟨_, rfl⟩
  rw [← hZ] at hnew ⊢
  clear hZ b3 N3 HX2 HS2 HB2 A2 HO2 hXU hYU HN2
  generalize U.alloc (.cells #[.int .i64 f0, .int .i64 7, .string f2, .int .i64 f3, .int .i64 f4, .int .i64 f5, .slice da dn dc, .slice ga gn gc, .int .i64 f8, .int .i64 0] 60) = U3 at *
  have hB3 : B ≤ U3.heap.size := by omega
  have hXn : (Value.slice oa on oc).ownBlock = none ∨ (Value.slice oa on oc).ownBlock ≠ some X := own_ne HO3.out HX3.out (by decide)
  refine wpL_call rfl (fun K hK => ?_)
  refine wp_append_own _ (.tmp 14) (.tmp 16) 48 rfl B 60 i0 _ 10 120 Try.underlying48 hi hz0 hz1 hz2 rfl (by decide) (.slice oa on oc) on l rfl HO3.out ⟨Z, 0, none⟩ 1 1 [.int .i64 f0, .int .i64 7, .string f2, .int .i64 f3, .int .i64 f4, .int .i64 f5, .slice da dn dc, .slice ga gn gc, .int .i64 f8, .int .i64 0] rfl rfl hnew (by simp [Value.oneCell']) (by unfold maxLen; omega) (by omega) hB3 ?_
  intro v' U4 own4 g4 _
  obtain ⟨va, vc, rfl, _, _⟩ := own_slice own4
  have hXx : X ≠ X → False := fun h => h rfl
  have hX4 := (g4.block X hXU3 (fun e => by rcases hXn with h | h; (rw [h] at e; cases e); exact h e.symm)).trans HX3.out
  have hY4 := g4.block Y hYU3 (fun e => by have := (hob Y e.symm).2; omega)
  refine hK _ _ ⟨hY4, World.cell?_of_block (a := ⟨X, 14, none⟩) (g4.block X hXU3 (fun e => by rcases hXn with h | h; (rw [h] at e; cases e); exact h e.symm))⟩ ?_
  clear hK K
  try simp only [Act.put, List.setIfInBounds_toArray, List.set_cons_succ, List.set_cons_zero]
  have HX4 := hid hX4
  have HN4 := hid (fun N (h1 : N < Y) (h2 : (Value.slice oa on oc).ownBlock ≠ some N) => (g4.block N (Nat.lt_trans h1 hYU3) (fun e => h2 e.symm)).trans (HN3.out N h1))
  have hYU4 : Y < U4.heap.size := Nat.lt_of_lt_of_le hYU3 g4.size
  have HS4 := hid (fun T (h1 : T ≠ 72) (h2 : T ≠ 60) => (HS3.out T h1 h2).trans (Stays.ofOwn g4 HO3.out (fun e => h2 e.symm)))
  have HB4 := hid (HB3.out.grown g4 hB3 (fun k hk => (hob k hk).1))
  have O4 := hid own4
  clear hX4 hY4 g4 own4 hnew HX3 HS3 HB3 A3 HO3 hXn hYU3 hXU3 HN3
  iterate 2 (refine wpL_do rfl (fun w' hw' => (by go_simp; rfl)) ?_; simp only [Act.put, List.setIfInBounds_toArray, List.set_cons_succ, List.set_cons_zero])
  refine wpL_nil ?_
  simp only [List.drop_succ_cons, List.drop_zero]
  have x13 : U4.cell? ⟨X, 14, none⟩ = some (.slice oa on oc) := by rw [cell_of_row _ _ _ _ _ _ HX4.out]; exact h13
  have fz := frozen_row HX4.out 14
  obtain ⟨m1, m2⟩ := set_row (cs' := cs.setIfInBounds 14 (.slice va (on + 1) vc)) HX4.out 14 (.slice va (on + 1) vc) rfl
  have HX5 := hid m1
  have HN5 := hid (fun N (h1 : N < Y) (h3 : N ≠ X) (h2 : (Value.slice oa on oc).ownBlock ≠ some N) => (m2.block N (Nat.lt_trans h1 hYU4) (fun e => by cases e; exact h3 rfl)).trans (HN4.out N h1 h2))
  have HS5 := hid (fun T (h1 : T ≠ 72) (h2 : T ≠ 60) => (HS4.out T h1 h2).trans (Stays.ofSet m2 HX4.out h1))
  have HB5 := hid (HB4.out.grown m2 (Nat.le_trans hB (Nat.le_of_lt (row_lt HX4.out))) (fun k e => by cases e; exact hB))
  have O5 := hid (row_kept_own HX4.out O4.out m2 (by decide))
  clear m1 m2 HX4 HS4 HB4 O4 HN4
  go_wp2_with fail
  unfold OnlyOn
  go_end0
  refine ⟨rfl, ⟨va, vc, by rw [← Hon.out]; exact HX5.out, ?_⟩, HB5.out, HS5.out, fun u hu N h1 h3 h2 => HN5.out N (by rw [HYe.out]; exact h1) h3 (by rw [h13] at hu; cases hu; exact h2)⟩
  rw [E1.out, ← Hon.out]
  exact O5.out
end Go.Proofs.Ytopmamgdfngdoaa
/- deliver: a taker at work: its memory; done, seen. -/
namespace Go.Proofs.Ytopmamgdfngdoaa
set_option linter.unusedVariables false
open Go.RowKit

structure TA where
  ha : Option Addr
  hc : Nat
  fa : Option Addr
  fc : Nat
  oa : Option Addr
  oc : Nat
def twc (D : DP) (t : TS) (A : TA) (hn fn on : Nat) : Array Value :=
  #[.int .i64 7, .bool t.kn, .string (if t.kn = true then logS else emS), .int .i64 (if t.kn = true then (D.P.F : Int) else 0), .bool t.en, .int .i64 (if t.en = true then (D.P.F : Int) else 0), .int .i64 (if t.en = true then (D.s : Int) else 0), .slice A.ha hn A.hc, .slice A.fa fn A.fc, .int .i64 (t.st : Int), .int .i64 (t.tm : Int), .int .i64 (D.P.p : Int), .int .i64 (t.tr : Int), .int .i64 100, .slice A.oa on A.oc]
structure TW (D : DP) (W : World) (X B : Nat) (t : TS) (A : TA) (o : List NV) : Prop where
  bx : W.heap[X]? = some (.cells (twc D t A t.hv.length (topH t.hv) o.length) 72)
  f : RdT 5 W A.fa (topH t.hv) A.fc (vb (fileT D.fl t.hv))
  h : RdS W A.ha t.hv.length A.hc t.hv
  ow : W.ownsRow B 60 10 (.slice A.oa o.length A.oc) o.length (o.flatMap (ncl D))
  ns : ∀ v ∈ o, NVM D W v
theorem TW.below {D : DP} {W W' : World} {X B : Nat} {t : TS} {A : TA} {o : List NV} (h : TW D W X B t A o) (hb : Below W.heap.size W W') : TW D W' X B t A o :=
  ⟨row_below h.bx hb, h.f.below hb, h.h.below hb, ownsRow_below h.ow hb, fun v hv => (h.ns v hv).below hb⟩
/-- its own cells are written to -/
theorem TW.set {D : DP} {W W' : World} {X B : Nat} {t t' : TS} {A A' : TA} {o : List NV} (h : TW D W X B t A o) (hg : W.grownBy W' (some X)) (hn : W'.heap[X]? = some (.cells (twc D t' A' t'.hv.length (topH t'.hv) o.length) 72)) (e1 : A'.oa = A.oa) (e2 : A'.oc = A.oc) (hf : RdT 5 W A'.fa (topH t'.hv) A'.fc (vb (fileT D.fl t'.hv))) (hh : RdS W A'.ha t'.hv.length A'.hc t'.hv) : TW D W' X B t' A' o := by
  have s5 : Stays 5 W W' := Stays.ofSet hg h.bx (by decide)
  have s84 : Stays 84 W W' := Stays.ofSet hg h.bx (by decide)
  exact ⟨hn, hf.stays s5, hh.stays s84, by rw [e1, e2]; exact row_kept_own h.bx h.ow hg (by decide), fun v hv => (h.ns v hv).stays s5 s84⟩
/-- what a taker at work does to the world -/
structure TwS (W0 W : World) (B : Nat) : Prop where
  blw : Below B W0 W
  st : ∀ T, T ≠ 72 → T ≠ 60 → Stays T W0 W
theorem TwS.refl (W : World) (B : Nat) : TwS W W B := ⟨Below.refl _ _, fun _ _ _ => Stays.refl _ _⟩
theorem TwS.trans {W0 W W' : World} {B : Nat} (h : TwS W0 W B) (k : TwS W W' B) : TwS W0 W' B := ⟨h.blw.trans k.blw, fun T h1 h2 => (h.st T h1 h2).trans (k.st T h1 h2)⟩
theorem TwS.below {W0 W W' : World} {B : Nat} (h : TwS W0 W B) (hB : B ≤ W.heap.size) (hb : Below W.heap.size W W') : TwS W0 W' B := h.trans ⟨hb.mono hB, fun _ _ _ => Stays.ofBelow hb⟩
theorem TwS.set {W0 W W' : World} {B X : Nat} {cs : Array Value} (h : TwS W0 W B) (hB : B ≤ X) (hX : W.heap[X]? = some (.cells cs 72)) (hg : W.grownBy W' (some X)) : TwS W0 W' B :=
  h.trans ⟨(Below.refl B W).grown hg (Nat.le_trans hB (Nat.le_of_lt (row_lt hX))) (fun k e => by cases e; exact hB), fun T h1 _ => Stays.ofSet hg hX h1⟩
theorem TW.lt {D : DP} {W : World} {X B : Nat} {t : TS} {A : TA} {o : List NV} (h : TW D W X B t A o) (hB : B ≤ X) : B ≤ W.heap.size := Nat.le_trans hB (Nat.le_of_lt (row_lt h.bx))
/-- it has said something -/
theorem TW.said {D : DP} {W W' : World} {X B : Nat} {t : TS} {A : TA} {o : List NV} {v : NV} {e : Ending} (h : TW D W X B t A o) (hv : NVM D W v) (hs : Say46 D W W' X B (twc D t A t.hv.length (topH t.hv) o.length) o v e) : ∃ oa oc, TW D W' X B t { A with oa := oa, oc := oc } (o ++ [v]) ∧ TwS W W' B := by
  obtain ⟨oa, oc, hX, ho⟩ := hs.ex
  have s5 : Stays 5 W W' := hs.st 5 (by decide) (by decide)
  have s84 : Stays 84 W W' := hs.st 84 (by decide) (by decide)
  have hl : (o ++ [v]).length = o.length + 1 := by rw [List.length_append]; rfl
  refine ⟨oa, oc, ⟨?_, h.f.stays s5, h.h.stays s84, by rw [hl]; exact ho, fun u hu => ?_⟩, hs.blw, hs.st⟩
  · rw [hX, hl]
    rfl
  · rcases List.mem_append.1 hu with k | k
    · exact (h.ns u k).stays s5 s84
    · rw [List.mem_singleton] at k
      subst k
      exact hv.stays s5 s84
/-- a step of a taker at work -/
structure TwR (D : DP) (W0 W : World) (X B : Nat) (t : TS) (ks : List NT) (e : Ending) (o : List NV) (v : Value) : Prop where
  he : e = .returned v
  ex : ∃ A vs, TW D W X B t A (o ++ vs) ∧ vs.map (·.k) = ks
  s : TwS W0 W B
structure TwRs (D : DP) (W0 W : World) (X B : Nat) (t : TS) (A : TA) (ks : List NT) (e : Ending) (o : List NV) (v : Value) : Prop where
  he : e = .returned v
  ex : ∃ oa oc vs, TW D W X B t { A with oa := oa, oc := oc } (o ++ vs) ∧ vs.map (·.k) = ks
  s : TwS W0 W B
theorem TwRs.twr {D : DP} {W0 W : World} {X B : Nat} {t : TS} {A : TA} {ks : List NT} {e : Ending} {o : List NV} {v : Value} (h : TwRs D W0 W X B t A ks e o v) : TwR D W0 W X B t ks e o v := by
  obtain ⟨h1, ⟨oa, oc, vs, h2, h3⟩, h4⟩ := h
  exact ⟨h1, ⟨_, vs, h2, h3⟩, h4⟩
set_option maxRecDepth 1000000 in
set_option maxHeartbeats 4000000 in
theorem done_ok (D : DP) (X B : Nat) (t : TS) (A : TA) (o : List NV) (w : World) (hB : B ≤ X) (h : TW D w X B t A o) (hn : o.length ≤ 100000) :
    Calls Try.prog 26 #[.pointer (some ⟨X, 0, none⟩), .int .i64 0] w fun e w' => TwRs D w w' X B t A [.nd] e o (.tuple #[]) := by
  have H := hid h
  have hs := hid (say46_ok D X B (twc D t A t.hv.length (topH t.hv) o.length) o ⟨.nd, none, 0⟩ A.oa A.oc w hB h.bx rfl rfl h.ow hn)
  clear h
  go_enter Try.func26, Try.ntmps26
  go_wp2_with fail
  refine (Calls.mono hs.out ?_)
  intro e w' hs'
  have he := hs'.he
  subst he
  obtain ⟨oa', oc', k1, k2⟩ := H.out.said (v := ⟨.nd, none, 0⟩) trivial hs'
  have K1 := hid k1
  have K2 := hid k2
  clear hs' hs k1 k2
  go_wp2_with fail
  go_end0
  exact ⟨rfl, ⟨oa', oc', [⟨.nd, none, 0⟩], K1.out, rfl⟩, K2.out⟩
set_option maxRecDepth 1000000 in
set_option maxHeartbeats 4000000 in
theorem seen_ok (D : DP) (X B : Nat) (t : TS) (A : TA) (o : List NV) (w : World) (hB : B ≤ X) (h : TW D w X B t A o) (hn : o.length ≤ 100000) :
    Calls Try.prog 32 #[.pointer (some ⟨X, 0, none⟩)] w fun e w' => TwRs D w w' X B t A [.se] e o (.tuple #[]) := by
  have H := hid h
  have hs := hid (say46_ok D X B (twc D t A t.hv.length (topH t.hv) o.length) o ⟨.se, none, 0⟩ A.oa A.oc w hB h.bx rfl rfl h.ow hn)
  clear h
  go_enter Try.func32, Try.ntmps32
  go_wp2_with fail
  refine (Calls.mono hs.out ?_)
  intro e w' hs'
  have he := hs'.he
  subst he
  obtain ⟨oa', oc', k1, k2⟩ := H.out.said (v := ⟨.se, none, 0⟩) trivial hs'
  have K1 := hid k1
  have K2 := hid k2
  clear hs' hs k1 k2
  go_wp2_with fail
  go_end0
  exact ⟨rfl, ⟨oa', oc', [⟨.se, none, 0⟩], K1.out, rfl⟩, K2.out⟩
end Go.Proofs.Ytopmamgdfngdoaa
/- deliver: a taker at work: a tick more. -/
namespace Go.Proofs.Ytopmamgdfngdoaa
set_option linter.unusedVariables false
open Go.RowKit

/-- a number of its own is stored -/
theorem TW.num {D : DP} {W : World} {X B : Nat} {t t' : TS} {A : TA} {o : List NV} (h : TW D W X B t A o) (hB : B ≤ X) (i : Nat) (v : Value) (hh : t'.hv = t.hv) (he : (twc D t A t.hv.length (topH t.hv) o.length).setIfInBounds i v = twc D t' A t.hv.length (topH t.hv) o.length) :
    TW D (W.setCell ⟨X, i, none⟩ v) X B t' A o ∧ TwS W (W.setCell ⟨X, i, none⟩ v) B := by
  obtain ⟨m1, m2⟩ := set_row (cs' := twc D t' A t.hv.length (topH t.hv) o.length) h.bx i v he
  refine ⟨h.set m2 (by rw [hh]; exact m1) rfl rfl (by rw [hh]; exact h.f) (by rw [hh]; exact h.h), (TwS.refl W B).set hB h.bx m2⟩
set_option maxRecDepth 1000000 in
set_option maxHeartbeats 4000000 in
theorem late_ok (D : DP) (hD : DOk D) (X B : Nat) (t : TS) (A : TA) (o : List NV) (w : World) (hB : B ≤ X) (h : TW D w X B t A o) (htm : t.tm < D.P.p) :
    Calls Try.prog 24 #[.pointer (some ⟨X, 0, none⟩)] w fun e w' => e = .returned (.bool (decide ((t.tm + 1) % D.P.p = 0))) ∧ TW D w' X B { t with tm := (t.tm + 1) % D.P.p } A o ∧ TwS w w' B := by
  have hp9 := hD.P.p9
  have hp0 := hD.P.p
  have hdr := (Below.refl w.heap.size w).drew
  have H := hid (h.below hdr)
  have S := hid ((TwS.refl w B).below (h.lt hB) hdr)
  clear h hdr
  have a1 : IntKind.i64.wrap ((t.tm : Int) + 1) = (t.tm : Int) + 1 := IntWalk.i64_in _ (by omega)
  obtain ⟨m, hm⟩ : ∃ m, m = (t.tm + 1) % D.P.p := ⟨_, rfl⟩
  have hmlt : m < D.P.p := by rw [hm]; exact Nat.mod_lt _ hp0
  have a2 : ((t.tm : Int) + 1).tmod (D.P.p : Int) = (m : Int) := by
    rw [hm]
    have : ((t.tm : Int) + 1) = ((t.tm + 1 : Nat) : Int) := by omega
    rw [this]
    rfl
  have hpz : ¬ (D.P.p : Int) = 0 := by omega
  have hpz' : ¬ D.P.p = 0 := by omega
  rw [← hm]
  have HM := hid hm
  clear hm
  go_enter Try.func24, Try.ntmps24
  refine wp_seq_k (fun K0 hK0 => ?_)
  go_wp2_with fail
  refine hK0.out _ _ ?_
  refine wp_seq_k (fun K1 hK1 => ?_)
  refine wp_region_can 16 [] [0, 1, 2, 3, 4, 5, 6, 7, 8, 9, 10, 11, 12, 13, 14, 15] (fun u u' => u' = u) (fun _ => rfl) (fun _ _ _ h k => k.trans h) (by kernel_rfl) (by kernel_rfl) ?_
  simp only [List.map_cons, List.map_nil, List.contains_nil, List.getD_cons_zero, List.getD_cons_succ]
  generalize w.drew = U at *
  have c10 : U.cell? ⟨X, 10, none⟩ = some (.int .i64 (t.tm : Int)) := by rw [cell_of_row _ _ _ _ _ _ H.out.bx]; rfl
  have c11 : U.cell? ⟨X, 11, none⟩ = some (.int .i64 (D.P.p : Int)) := by rw [cell_of_row _ _ _ _ _ _ H.out.bx]; rfl
  iterate 12 (refine wpL_do rfl (fun w' hw' => (by cases hw'; go_simp; rfl)) ?_; simp only [Act.put, List.setIfInBounds_toArray, List.set_cons_succ, List.set_cons_zero])
  refine wpL_do (v := .int .i64 (m : Int)) rfl (fun w' hw' => (by cases hw'; go_simp)) ?_
  simp only [Act.put, List.setIfInBounds_toArray, List.set_cons_succ, List.set_cons_zero]
  iterate 3 (refine wpL_do rfl (fun w' hw' => (by cases hw'; go_simp; rfl)) ?_; simp only [Act.put, List.setIfInBounds_toArray, List.set_cons_succ, List.set_cons_zero])
  refine wpL_nil ?_
  simp only [List.drop_succ_cons, List.drop_zero]
  clear c11 a1 a2
  have fz := frozen_row H.out.bx 10
  obtain ⟨k1, k2⟩ := H.out.num (t' := { t with tm := m }) hB 10 (.int .i64 (m : Int)) rfl rfl
  have H2 := hid k1
  have S2 := hid (S.out.trans k2)
  clear k1 k2 H S
  go_wp2_with fail
  unfold OnlyOn
  refine hK1.out _ _ ?_
  clear c10 fz
  generalize U.setCell ⟨X, 10, none⟩ (.int .i64 (m : Int)) = V at *
  have c10 : V.cell? ⟨X, 10, none⟩ = some (.int .i64 (m : Int)) := by rw [cell_of_row _ _ _ _ _ _ H2.out.bx]; rfl
  go_wp2_with fail
  go_ret
  refine ⟨?_, H2.out, S2.out⟩
  have e : ((m : Int) == 0) = decide (m = 0) := by
    by_cases h0 : m = 0
    · subst h0; rfl
    · rw [decide_eq_false h0, beq_eq_false_iff_ne]
      omega
  rw [← e]
  rfl
end Go.Proofs.Ytopmamgdfngdoaa
