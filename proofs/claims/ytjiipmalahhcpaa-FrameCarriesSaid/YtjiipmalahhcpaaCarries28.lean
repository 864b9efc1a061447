/- FrameCarries: what was told by the one that hears all goes into its row. -/
import Derived.Test.YtjiipmalahhcpaaCarries27
namespace Go.Proofs.Ytjiipmalahhcpaa
set_option linter.unusedVariables false
open Go.RowKit

/-- a frame that is at hand -/
structure FM (W : World) (H : Nat) (fa : Option Addr) (n fc : Nat) (F : List Nat) (ch ma ow fi : Nat) : Prop where
  hd : W.heap[H]? = some (.cells #[.int .i64 77, .int .i64 (ch : Int), .int .i64 (ma : Int), .int .i64 (ow : Int), .int .i64 (fi : Int)] 46)
  fr : RdT 5 W fa n fc (vb F)
theorem FM.below {W W' : World} {H : Nat} {fa : Option Addr} {n fc : Nat} {F : List Nat} {ch ma ow fi : Nat} (h : FM W H fa n fc F ch ma ow fi) (hb : Below W.heap.size W W') : FM W' H fa n fc F ch ma ow fi := ⟨row_below h.hd hb, h.fr.below hb⟩
theorem FM.kept {W W' : World} {H : Nat} {fa : Option Addr} {n fc : Nat} {F : List Nat} {ch ma ow fi : Nat} {row : Option Nat} (h : FM W H fa n fc F ch ma ow fi) (hg : W.grownBy W' row) (h1 : ∀ b cs, W.heap[b]? = some (.cells cs 46) → row ≠ some b) (h2 : ∀ b cs, W.heap[b]? = some (.cells cs 5) → row ≠ some b) : FM W' H fa n fc F ch ma ow fi := ⟨row_kept2 h.hd hg h1, h.fr.kept hg h2⟩
structure SF (y : Nat → Value) (fa : Option Addr) (n fc H k : Nat) : Prop where
  s23 : y 23 = .slice fa n fc
  s24 : y 24 = .pointer (some ⟨H, 0, none⟩)
  s31 : y 31 = .int .i64 (k : Int)
theorem HLs.kept {W W' : World} {B ch : Nat} {M : List PB} {ha : Option Addr} {hc : Nat} {row : Option Nat} (h : HLs W B ch M ha hc) (hg : W.grownBy W' row) (h1 : ∀ b cs, W.heap[b]? = some (.cells cs 59) → row ≠ some b) (h2 : ∀ b cs, W.heap[b]? = some (.cells cs 5) → row ≠ some b) : HLs W' B ch M ha hc :=
  ⟨own_kept2 h.ow hg h1, fun r hr => (h.rd r hr).kept hg h2, h.ln⟩
/-- packets told by frame k of channel ch -/
def tells (k ch : Nat) (M : List PB) : List TB := M.map fun r => (k, ch, r)
theorem tells_len (k ch : Nat) (M : List PB) : (tells k ch M).length = M.length := by unfold tells; rw [List.length_map]

def CaAI (w : World) (ja : Option Addr) (jn jc n S X Y i B0 : Nat) (s : ST) (m : MA) (fa : Option Addr) (fc H k ch : Nat) (F : List Nat) (pm ow fi : Nat) (M : List PB) (ha : Option Addr) (hc Bh : Nat) (y : Nat → Value) (W : World) : Prop :=
  ∃ (j : Nat) (va : Option Addr) (vc : Nat), j ≤ M.length ∧ SC y ja jn jc n S X Y i s { m with aa := va, ac := vc, A := m.A ++ tells k ch (M.take j) } ∧ SF y fa n fc H k ∧ y 28 = .slice ha M.length hc ∧ y 32 = .int .i64 (j : Int) ∧
    CM W B0 S X Y n s { m with aa := va, ac := vc, A := m.A ++ tells k ch (M.take j) } ∧ HLs W Bh ch M ha hc ∧ FM W H fa n fc F ch pm ow fi ∧ Below B0 w W
set_option maxRecDepth 1000000 in
set_option maxHeartbeats 8000000 in
theorem car_a (ja : Option Addr) (jn jc n S X Y i B0 : Nat) (s : ST) (m : MA) (fa : Option Addr) (fc H k ch : Nat) (F : List Nat) (pm ow fi : Nat) (M : List PB) (ha : Option Addr) (hc Bh : Nat) (hB : B0 ≤ S) (hM2 : m.A.length + M.length ≤ 1000) :
    Tri Try.prog 486 (pieceOf Try.f4 [1, 1, 1, 1, 1, 1, 1, 1, 1, 1, 1, 1, 0, 1, 0, 0, 1, 0, 0, 1, 1, 1, 1, 1, 1, 1, 1, 1, 1, 1, 0]) (fun y w => SC y ja jn jc n S X Y i s m ∧ SF y fa n fc H k ∧ y 28 = .slice ha M.length hc ∧ CM w B0 S X Y n s m ∧ HLs w Bh ch M ha hc ∧ FM w H fa n fc F ch pm ow fi)
      (fun y w y' w' => ∃ va vc, SC y' ja jn jc n S X Y i s { m with aa := va, ac := vc, A := m.A ++ tells k ch M } ∧ SF y' fa n fc H k ∧ CM w' B0 S X Y n s { m with aa := va, ac := vc, A := m.A ++ tells k ch M } ∧ FM w' H fa n fc F ch pm ow fi ∧ Below B0 w w') := by
  rintro Q y w ⟨⟨t1, t5, t6, t8, t10, t12, t13, t14, t15, t16, t17, t18⟩, ⟨t23, t24, t31⟩, t28, hM, hH, hF⟩ hQ
  have HQ := hid hQ
  have HMm := hid hM
  have HH := hid hH
  have HF := hid hF
  clear hQ hM hH hF
  conv => arg 2; whnf
  refine wp_seq_k (fun K0 hK0 => ?_)
  rw [fr486]
  simp only [t1, t5, t6, t8, t10, t12, t13, t14, t15, t16, t17, t18, t23, t24, t31, t28]
  clear t1 t5 t6 t8 t10 t12 t13 t14 t15 t16 t17 t18 t23 t24 t31 t28
  go_wp2_with fail
  refine hK0.out _ _ ?_
  refine wp_block ?_
  have h0 : CM w B0 S X Y n s { m with aa := m.aa, ac := m.ac, A := m.A ++ tells k ch (M.take 0) } := by
    rw [List.take_zero]
    show CM w B0 S X Y n s { m with A := m.A ++ [] }
    rw [List.append_nil]
    exact HMm.out
  have hl0 : (m.A ++ tells k ch (M.take 0)).length = m.A.length := by rw [List.take_zero]; show (m.A ++ []).length = _; rw [List.append_nil]
  refine wp_loop_fr 486 (CaAI w ja jn jc n S X Y i B0 s m fa fc H k ch F pm ow fi M ha hc Bh) (fun y' _ => M.length - (intOf (y' 32)).toNat) ⟨rfl, rfl, 0, m.aa, m.ac, Nat.zero_le _, ⟨rfl, rfl, rfl, rfl, rfl, rfl, by rw [hl0]; rfl, rfl, rfl, rfl, rfl, rfl⟩, ⟨rfl, rfl, rfl⟩, rfl, rfl, h0, HH.out, HF.out, Below.refl _ _⟩ ?_
  clear h0 hl0 HMm HH HF
  rintro z W ⟨j, va, vc, hj, ⟨s1, s5, s6, s8, s10, s12, s13, s14, s15, s16, s17, s18⟩, ⟨s23, s24, s31⟩, s28, s32, hM, hH, hF, hb⟩
  have HMm := hid hM
  have HH := hid hH
  have HF := hid hF
  have HB := hid hb
  have hal : (m.A ++ tells k ch (M.take j)).length = m.A.length + j := by rw [List.length_append, tells_len, List.length_take]; omega
  dsimp only at s12 s13 s14 s15 s16
  rw [hal] at s13
  clear hM hH hF hb
  rw [fr486]
  simp only [s1, s5, s6, s8, s10, s12, s13, s14, s15, s16, s17, s18, s23, s24, s31, s28, s32]
  clear s1 s5 s6 s8 s10 s12 s13 s14 s15 s16 s17 s18 s23 s24 s31 s28 s32
  by_cases hlt : j < M.length
  · have d1 : decide ((j : Int) < (M.length : Int)) = true := decide_eq_true (by omega)
    obtain ⟨g, rfl⟩ := own_addr HH.out.ow (by omega)
    have hcel : ∀ q, q < 7 → W.cell? ⟨g, j * 7 + q, none⟩ = (hcl ch M[j])[q]? := fun q hq => own_flat (hcl ch) (hcl_len ch) HH.out.ow rfl j hlt q hq
    have hrr := HH.out.rd M[j] (List.getElem_mem _)
    have hrl := HH.out.ln M[j] (List.getElem_mem _)
    have htk : tells k ch (M.take (j + 1)) = tells k ch (M.take j) ++ [(k, ch, M[j])] := by
      unfold tells
      rw [List.take_succ_eq_append_getElem hlt, List.map_append]
      rfl
    obtain ⟨r, hr⟩ : ∃ r, r = M[j] := ⟨_, rfl⟩
    rw [← hr] at hcel hrr hrl htk
    have Hrr := hid hrr
    have Hrl := hid hrl
    have Htk := hid htk
    have x0 : W.cell? ⟨g, j * 7, none⟩ = some (.int .i64 (ch : Int)) := hcel 0 (by omega)
    have x1 : W.cell? ⟨g, j * 7 + 1, none⟩ = some (.bool r.2.up) := hcel 1 (by omega)
    have x2 : W.cell? ⟨g, j * 7 + 2, none⟩ = some (.bool r.2.se) := hcel 2 (by omega)
    have x3 : W.cell? ⟨g, j * 7 + 3, none⟩ = some (.int .i64 (r.2.ap : Int)) := hcel 3 (by omega)
    have x4 : W.cell? ⟨g, j * 7 + 4, none⟩ = some (.int .i64 (r.2.pt : Int)) := hcel 4 (by omega)
    have x5 : W.cell? ⟨g, j * 7 + 5, none⟩ = some (.int .i64 (r.2.ct : Int)) := hcel 5 (by omega)
    have x6 : W.cell? ⟨g, j * 7 + 6, none⟩ = some (.slice r.1.1 r.1.2.1 r.1.2.2) := hcel 6 (by omega)
    obtain ⟨mn, hmn⟩ : ∃ mn, mn = M.length := ⟨_, rfl⟩
    rw [← hmn] at hlt d1 hM2 ⊢
    have Hmn := hid hmn
    have hjm : (j : Int) < (mn : Int) := by omega
    clear hrr hrl htk hcel hr hj hmn
    have b2 := below_alloc W (.cells #[.int .i64 (k : Int), .int .i64 (ch : Int), .bool r.2.up, .bool r.2.se, .int .i64 (r.2.ap : Int), .int .i64 (r.2.pt : Int), .int .i64 (r.2.ct : Int), .slice r.1.1 r.1.2.1 r.1.2.2] 63)
    have hn2 : ∀ (q : Nat) (u : Value), (tcl (k, ch, r))[q]? = some u → (W.alloc (.cells #[.int .i64 (k : Int), .int .i64 (ch : Int), .bool r.2.up, .bool r.2.se, .int .i64 (r.2.ap : Int), .int .i64 (r.2.pt : Int), .int .i64 (r.2.ct : Int), .slice r.1.1 r.1.2.1 r.1.2.2] 63)).cell? ((⟨W.heap.size, 0, none⟩ : Addr).add q) = some u := new_cells W (tcl (k, ch, r)) 63
    have HM2 := hid (HMm.out.below b2)
    have HH2 := hid (HH.out.below b2)
    have HF2 := hid (HF.out.below b2)
    have Hrr2 := hid (Hrr.out.below b2)
    have HB2 := hid (HB.out.trans (b2.mono (Nat.le_trans hB (Nat.le_of_lt (row_lt HMm.out.sx)))))
    have HN2 := hid hn2
    have hB2 : Hid (B0 ≤ (W.alloc (.cells #[.int .i64 (k : Int), .int .i64 (ch : Int), .bool r.2.up, .bool r.2.se, .int .i64 (r.2.ap : Int), .int .i64 (r.2.pt : Int), .int .i64 (r.2.ct : Int), .slice r.1.1 r.1.2.1 r.1.2.2] 63)).heap.size) := hid (Nat.le_trans hB (Nat.le_of_lt (row_lt HM2.out.sx)))
    clear b2 hn2 HMm HH HF Hrr HB
    obtain ⟨i63, hi63, hz63, hs63, hb63⟩ := info_parts Try.info63
    have hrow := HM2.out.ra.ow
    dsimp only at hrow
    rw [hal] at hrow
    have HRow := hid hrow
    clear hrow
    go_upto_block 3 with (fail)
    refine wp_block ?_
    go_wp2_with (at_builtin; refine hold ?_)
    unfold Hid
    refine wpList_append_wide_at rfl _ _ 56 rfl B0 63 i63 _ 8 72 Try.underlying56 hi63 hz63 hs63 hb63 rfl (by decide) (.slice va (m.A.length + j) vc) (m.A.length + j) ((m.A ++ tells k ch (M.take j)).flatMap tcl) rfl HRow.out ⟨W.heap.size, 0, none⟩ 1 1 (tcl (k, ch, r)) rfl rfl HN2.out (tcl_one _) (by unfold maxLen; omega) (by omega) hB2.out ?_
    intro v' U o3 g3 hw3
    obtain ⟨ua, uc, rfl, _, _, _⟩ := own_form o3
    have hlt3 := fun q hq => (HRow.out.lt q hq).1
    have t63 : ∀ {T' : TypeId}, 63 ≠ T' → ∀ b cs, (W.alloc (.cells #[.int .i64 (k : Int), .int .i64 (ch : Int), .bool r.2.up, .bool r.2.se, .int .i64 (r.2.ap : Int), .int .i64 (r.2.pt : Int), .int .i64 (r.2.ct : Int), .slice r.1.1 r.1.2.1 r.1.2.2] 63)).heap[b]? = some (.cells cs T') → (Value.slice va (m.A.length + j) vc).ownBlock ≠ some b := fun hT => own_type HRow.out hT
    have HH3 := hid (HH2.out.kept g3 (t63 (by decide)) (t63 (by decide)))
    have HF3 := hid (HF2.out.kept g3 (t63 (by decide)) (t63 (by decide)))
    have HB3 := hid (HB2.out.grown g3 hB2.out hlt3)
    have hM3 := HM2.out.appA (x := (k, ch, r)) (va := ua) (vc := uc) (W' := U) (by dsimp only; rw [hal]; exact o3) (by dsimp only; rw [hal]; exact g3) Hrr2.out Hrl.out (by dsimp only; rw [hal]; exact hw3)
    dsimp only at hM3
    rw [List.append_assoc, ← Htk.out] at hM3
    have HM3 := hid hM3
    clear hM3 o3 g3 hw3 hlt3 t63 HH2 HF2 HB2 HM2 HRow HN2 hB2 Hrr2 x0 x1 x2 x3 x4 x5 x6
    have hal2 : Hid ((m.A ++ tells k ch (M.take (j + 1))).length = m.A.length + j + 1) := by
      unfold Hid
      have := Hmn.out
      rw [List.length_append, tells_len, List.length_take]; omega
    go_wp2_with fail
    refine ⟨rfl, rfl, ⟨j + 1, ua, uc, by rw [← Hmn.out]; omega, ⟨rfl, rfl, rfl, rfl, rfl, rfl, ?_, rfl, rfl, rfl, rfl, rfl⟩, ⟨rfl, rfl, rfl⟩, ?_, ?_, HM3.out, HH3.out, HF3.out, HB3.out⟩, ?_⟩
    · rw [hal2.out]; rfl
    · rw [← Hmn.out]; rfl
    · show Value.int .i64 _ = Value.int .i64 _
      go_num
    · show mn - (intOf (Value.int .i64 _)).toNat < _
      simp [intOf]
      omega
  · obtain rfl : j = M.length := by omega
    have d1 : decide (((M.length : Nat) : Int) < (M.length : Int)) = false := decide_eq_false (by omega)
    have hM4 := HMm.out
    rw [List.take_length] at hM4
    have HM4 := hid hM4
    have hal3 : Hid ((m.A ++ tells k ch M).length = m.A.length + M.length) := by
      unfold Hid
      rw [List.length_append, tells_len]
    clear hM4 HMm HH hal
    go_wp2_with fail
    refine q_fr (N := 486) HQ.out rfl ⟨va, vc, ⟨rfl, rfl, rfl, rfl, rfl, rfl, ?_, rfl, rfl, rfl, rfl, rfl⟩, ⟨rfl, rfl, rfl⟩, HM4.out, HF.out, HB.out⟩
    rw [hal3.out]; rfl
end Go.Proofs.Ytjiipmalahhcpaa
/- FrameCarries: what was told by the other goes into its row. -/
namespace Go.Proofs.Ytjiipmalahhcpaa
set_option linter.unusedVariables false
open Go.RowKit

def CaBI (w : World) (ja : Option Addr) (jn jc n S X Y i B0 : Nat) (s : ST) (m : MA) (fa : Option Addr) (fc H k ch : Nat) (F : List Nat) (pm ow fi : Nat) (M : List PB) (ha : Option Addr) (hc Bh : Nat) (y : Nat → Value) (W : World) : Prop :=
  ∃ (j : Nat) (va : Option Addr) (vc : Nat), j ≤ M.length ∧ SC y ja jn jc n S X Y i s { m with ba := va, bc := vc, B := m.B ++ tells k ch (M.take j) } ∧ SF y fa n fc H k ∧ y 28 = .slice ha M.length hc ∧ y 34 = .int .i64 (j : Int) ∧
    CM W B0 S X Y n s { m with ba := va, bc := vc, B := m.B ++ tells k ch (M.take j) } ∧ HLs W Bh ch M ha hc ∧ FM W H fa n fc F ch pm ow fi ∧ Below B0 w W
set_option maxRecDepth 1000000 in
set_option maxHeartbeats 8000000 in
theorem car_b (ja : Option Addr) (jn jc n S X Y i B0 : Nat) (s : ST) (m : MA) (fa : Option Addr) (fc H k ch : Nat) (F : List Nat) (pm ow fi : Nat) (M : List PB) (ha : Option Addr) (hc Bh : Nat) (hB : B0 ≤ S) (hM2 : m.B.length + M.length ≤ 1000) :
    Tri Try.prog 486 (pieceOf Try.f4 [1, 1, 1, 1, 1, 1, 1, 1, 1, 1, 1, 1, 0, 1, 0, 0, 1, 0, 0, 1, 1, 1, 1, 1, 1, 1, 1, 1, 1, 1, 1, 1, 1, 1, 1, 1, 1]) (fun y w => SC y ja jn jc n S X Y i s m ∧ SF y fa n fc H k ∧ y 28 = .slice ha M.length hc ∧ CM w B0 S X Y n s m ∧ HLs w Bh ch M ha hc ∧ FM w H fa n fc F ch pm ow fi)
      (fun y w y' w' => ∃ va vc, SC y' ja jn jc n S X Y i s { m with ba := va, bc := vc, B := m.B ++ tells k ch M } ∧ SF y' fa n fc H k ∧ CM w' B0 S X Y n s { m with ba := va, bc := vc, B := m.B ++ tells k ch M } ∧ FM w' H fa n fc F ch pm ow fi ∧ Below B0 w w') := by
  rintro Q y w ⟨⟨t1, t5, t6, t8, t10, t12, t13, t14, t15, t16, t17, t18⟩, ⟨t23, t24, t31⟩, t28, hM, hH, hF⟩ hQ
  have HQ := hid hQ
  have HMm := hid hM
  have HH := hid hH
  have HF := hid hF
  clear hQ hM hH hF
  conv => arg 2; whnf
  refine wp_seq_k (fun K0 hK0 => ?_)
  rw [fr486]
  simp only [t1, t5, t6, t8, t10, t12, t13, t14, t15, t16, t17, t18, t23, t24, t31, t28]
  clear t1 t5 t6 t8 t10 t12 t13 t14 t15 t16 t17 t18 t23 t24 t31 t28
  go_wp2_with fail
  refine hK0.out _ _ ?_
  refine wp_block ?_
  have h0 : CM w B0 S X Y n s { m with ba := m.ba, bc := m.bc, B := m.B ++ tells k ch (M.take 0) } := by
    rw [List.take_zero]
    show CM w B0 S X Y n s { m with B := m.B ++ [] }
    rw [List.append_nil]
    exact HMm.out
  have hl0 : (m.B ++ tells k ch (M.take 0)).length = m.B.length := by rw [List.take_zero]; show (m.B ++ []).length = _; rw [List.append_nil]
  refine wp_loop_fr 486 (CaBI w ja jn jc n S X Y i B0 s m fa fc H k ch F pm ow fi M ha hc Bh) (fun y' _ => M.length - (intOf (y' 34)).toNat) ⟨rfl, rfl, 0, m.ba, m.bc, Nat.zero_le _, ⟨rfl, rfl, rfl, rfl, rfl, rfl, rfl, by rw [hl0]; rfl, rfl, rfl, rfl, rfl⟩, ⟨rfl, rfl, rfl⟩, rfl, rfl, h0, HH.out, HF.out, Below.refl _ _⟩ ?_
  clear h0 hl0 HMm HH HF
  rintro z W ⟨j, va, vc, hj, ⟨s1, s5, s6, s8, s10, s12, s13, s14, s15, s16, s17, s18⟩, ⟨s23, s24, s31⟩, s28, s32, hM, hH, hF, hb⟩
  have HMm := hid hM
  have HH := hid hH
  have HF := hid hF
  have HB := hid hb
  have hal : (m.B ++ tells k ch (M.take j)).length = m.B.length + j := by rw [List.length_append, tells_len, List.length_take]; omega
  dsimp only at s12 s13 s14 s15 s16
  rw [hal] at s14
  clear hM hH hF hb
  rw [fr486]
  simp only [s1, s5, s6, s8, s10, s12, s13, s14, s15, s16, s17, s18, s23, s24, s31, s28, s32]
  clear s1 s5 s6 s8 s10 s12 s13 s14 s15 s16 s17 s18 s23 s24 s31 s28 s32
  by_cases hlt : j < M.length
  · have d1 : decide ((j : Int) < (M.length : Int)) = true := decide_eq_true (by omega)
    obtain ⟨g, rfl⟩ := own_addr HH.out.ow (by omega)
    have hcel : ∀ q, q < 7 → W.cell? ⟨g, j * 7 + q, none⟩ = (hcl ch M[j])[q]? := fun q hq => own_flat (hcl ch) (hcl_len ch) HH.out.ow rfl j hlt q hq
    have hrr := HH.out.rd M[j] (List.getElem_mem _)
    have hrl := HH.out.ln M[j] (List.getElem_mem _)
    have htk : tells k ch (M.take (j + 1)) = tells k ch (M.take j) ++ [(k, ch, M[j])] := by
      unfold tells
      rw [List.take_succ_eq_append_getElem hlt, List.map_append]
      rfl
    obtain ⟨r, hr⟩ : ∃ r, r = M[j] := ⟨_, rfl⟩
    rw [← hr] at hcel hrr hrl htk
    have Hrr := hid hrr
    have Hrl := hid hrl
    have Htk := hid htk
    have x0 : W.cell? ⟨g, j * 7, none⟩ = some (.int .i64 (ch : Int)) := hcel 0 (by omega)
    have x1 : W.cell? ⟨g, j * 7 + 1, none⟩ = some (.bool r.2.up) := hcel 1 (by omega)
    have x2 : W.cell? ⟨g, j * 7 + 2, none⟩ = some (.bool r.2.se) := hcel 2 (by omega)
    have x3 : W.cell? ⟨g, j * 7 + 3, none⟩ = some (.int .i64 (r.2.ap : Int)) := hcel 3 (by omega)
    have x4 : W.cell? ⟨g, j * 7 + 4, none⟩ = some (.int .i64 (r.2.pt : Int)) := hcel 4 (by omega)
    have x5 : W.cell? ⟨g, j * 7 + 5, none⟩ = some (.int .i64 (r.2.ct : Int)) := hcel 5 (by omega)
    have x6 : W.cell? ⟨g, j * 7 + 6, none⟩ = some (.slice r.1.1 r.1.2.1 r.1.2.2) := hcel 6 (by omega)
    obtain ⟨mn, hmn⟩ : ∃ mn, mn = M.length := ⟨_, rfl⟩
    rw [← hmn] at hlt d1 hM2 ⊢
    have Hmn := hid hmn
    have hjm : (j : Int) < (mn : Int) := by omega
    clear hrr hrl htk hcel hr hj hmn
    have b2 := below_alloc W (.cells #[.int .i64 (k : Int), .int .i64 (ch : Int), .bool r.2.up, .bool r.2.se, .int .i64 (r.2.ap : Int), .int .i64 (r.2.pt : Int), .int .i64 (r.2.ct : Int), .slice r.1.1 r.1.2.1 r.1.2.2] 63)
    have hn2 : ∀ (q : Nat) (u : Value), (tcl (k, ch, r))[q]? = some u → (W.alloc (.cells #[.int .i64 (k : Int), .int .i64 (ch : Int), .bool r.2.up, .bool r.2.se, .int .i64 (r.2.ap : Int), .int .i64 (r.2.pt : Int), .int .i64 (r.2.ct : Int), .slice r.1.1 r.1.2.1 r.1.2.2] 63)).cell? ((⟨W.heap.size, 0, none⟩ : Addr).add q) = some u := new_cells W (tcl (k, ch, r)) 63
    have HM2 := hid (HMm.out.below b2)
    have HH2 := hid (HH.out.below b2)
    have HF2 := hid (HF.out.below b2)
    have Hrr2 := hid (Hrr.out.below b2)
    have HB2 := hid (HB.out.trans (b2.mono (Nat.le_trans hB (Nat.le_of_lt (row_lt HMm.out.sx)))))
    have HN2 := hid hn2
    have hB2 : Hid (B0 ≤ (W.alloc (.cells #[.int .i64 (k : Int), .int .i64 (ch : Int), .bool r.2.up, .bool r.2.se, .int .i64 (r.2.ap : Int), .int .i64 (r.2.pt : Int), .int .i64 (r.2.ct : Int), .slice r.1.1 r.1.2.1 r.1.2.2] 63)).heap.size) := hid (Nat.le_trans hB (Nat.le_of_lt (row_lt HM2.out.sx)))
    clear b2 hn2 HMm HH HF Hrr HB
    obtain ⟨i63, hi63, hz63, hs63, hb63⟩ := info_parts Try.info63
    have hrow := HM2.out.rb.ow
    dsimp only at hrow
    rw [hal] at hrow
    have HRow := hid hrow
    clear hrow
    go_upto_block 5 with (fail)
    refine wp_block ?_
    go_wp2_with (at_builtin; refine hold ?_)
    unfold Hid
    refine wpList_append_wide_at rfl _ _ 56 rfl B0 63 i63 _ 8 72 Try.underlying56 hi63 hz63 hs63 hb63 rfl (by decide) (.slice va (m.B.length + j) vc) (m.B.length + j) ((m.B ++ tells k ch (M.take j)).flatMap tcl) rfl HRow.out ⟨W.heap.size, 0, none⟩ 1 1 (tcl (k, ch, r)) rfl rfl HN2.out (tcl_one _) (by unfold maxLen; omega) (by omega) hB2.out ?_
    intro v' U o3 g3 hw3
    obtain ⟨ua, uc, rfl, _, _, _⟩ := own_form o3
    have hlt3 := fun q hq => (HRow.out.lt q hq).1
    have t63 : ∀ {T' : TypeId}, 63 ≠ T' → ∀ b cs, (W.alloc (.cells #[.int .i64 (k : Int), .int .i64 (ch : Int), .bool r.2.up, .bool r.2.se, .int .i64 (r.2.ap : Int), .int .i64 (r.2.pt : Int), .int .i64 (r.2.ct : Int), .slice r.1.1 r.1.2.1 r.1.2.2] 63)).heap[b]? = some (.cells cs T') → (Value.slice va (m.B.length + j) vc).ownBlock ≠ some b := fun hT => own_type HRow.out hT
    have HH3 := hid (HH2.out.kept g3 (t63 (by decide)) (t63 (by decide)))
    have HF3 := hid (HF2.out.kept g3 (t63 (by decide)) (t63 (by decide)))
    have HB3 := hid (HB2.out.grown g3 hB2.out hlt3)
    have hM3 := HM2.out.appB (x := (k, ch, r)) (va := ua) (vc := uc) (W' := U) (by dsimp only; rw [hal]; exact o3) (by dsimp only; rw [hal]; exact g3) Hrr2.out Hrl.out (by dsimp only; rw [hal]; exact hw3)
    dsimp only at hM3
    rw [List.append_assoc, ← Htk.out] at hM3
    have HM3 := hid hM3
    clear hM3 o3 g3 hw3 hlt3 t63 HH2 HF2 HB2 HM2 HRow HN2 hB2 Hrr2 x0 x1 x2 x3 x4 x5 x6
    have hal2 : Hid ((m.B ++ tells k ch (M.take (j + 1))).length = m.B.length + j + 1) := by
      unfold Hid
      have := Hmn.out
      rw [List.length_append, tells_len, List.length_take]; omega
    go_wp2_with fail
    refine ⟨rfl, rfl, ⟨j + 1, ua, uc, by rw [← Hmn.out]; omega, ⟨rfl, rfl, rfl, rfl, rfl, rfl, rfl, ?_, rfl, rfl, rfl, rfl⟩, ⟨rfl, rfl, rfl⟩, ?_, ?_, HM3.out, HH3.out, HF3.out, HB3.out⟩, ?_⟩
    · rw [hal2.out]; rfl
    · rw [← Hmn.out]; rfl
    · show Value.int .i64 _ = Value.int .i64 _
      go_num
    · show mn - (intOf (Value.int .i64 _)).toNat < _
      simp [intOf]
      omega
  · obtain rfl : j = M.length := by omega
    have d1 : decide (((M.length : Nat) : Int) < (M.length : Int)) = false := decide_eq_false (by omega)
    have hM4 := HMm.out
    rw [List.take_length] at hM4
    have HM4 := hid hM4
    have hal3 : Hid ((m.B ++ tells k ch M).length = m.B.length + M.length) := by
      unfold Hid
      rw [List.length_append, tells_len]
    clear hM4 HMm HH hal
    go_wp2_with fail
    refine q_fr (N := 486) HQ.out rfl ⟨va, vc, ⟨rfl, rfl, rfl, rfl, rfl, rfl, rfl, ?_, rfl, rfl, rfl, rfl⟩, ⟨rfl, rfl, rfl⟩, HM4.out, HF.out, HB.out⟩
    rw [hal3.out]; rfl
end Go.Proofs.Ytjiipmalahhcpaa
/- FrameCarries: a frame goes. -/
namespace Go.Proofs.Ytjiipmalahhcpaa
set_option linter.unusedVariables false
open Go.RowKit

theorem tells_map (k ch : Nat) (M : List PB) : (tells k ch M).map (fun t => (t.1, t.2.1, t.2.2.2)) = (M.map (·.2)).map (fun p => (k, ch, p)) := by
  unfold tells
  rw [List.map_map, List.map_map]
  rfl
theorem newE_map {k ch : Nat} {X : List EN} {psa pss : List PK} (h : NewE k ch X psa pss) : X.map (fun e => (e.fr, e.ch, e.pk)) = (reals psa).map (fun p => (k, ch, p)) := by
  rw [← h.a, List.map_map]
  refine List.map_congr_left fun e he => ?_
  obtain ⟨h1, h2⟩ := h.fr e he
  show (e.fr, e.ch, e.pk) = (k, ch, e.pk)
  rw [h1, h2]
theorem newE_flg {k ch : Nat} {X : List EN} {psa pss : List PK} (h : NewE k ch X psa pss) : (flg X).map (fun e => (e.fr, e.ch, e.pk)) = (reals pss).map (fun p => (k, ch, p)) := by
  rw [← h.b, List.map_map]
  refine List.map_congr_left fun e he => ?_
  obtain ⟨h1, h2⟩ := h.fr e (List.mem_filter.1 he).1
  show (e.fr, e.ch, e.pk) = (k, ch, e.pk)
  rw [h1, h2]
theorem flg_append (a b : List EN) : flg (a ++ b) = flg a ++ flg b := by unfold flg; rw [List.filter_append]
theorem relA {s : ST} {m : MA} {k ch : Nat} {X : List EN} {psa pss : List PK} {M : List PB} (h : RelC s m) (hX : NewE k ch X psa pss) (hM : M.map (·.2) = reals psa) : (m.A ++ tells k ch M).map (fun t => (t.1, t.2.1, t.2.2.2)) = (s.E ++ X).map (fun e => (e.fr, e.ch, e.pk)) := by
  rw [List.map_append, List.map_append, h.a, tells_map, hM, newE_map hX]
theorem relB {s : ST} {m : MA} {k ch : Nat} {X : List EN} {psa pss : List PK} {M : List PB} (h : RelC s m) (hX : NewE k ch X psa pss) (hM : M.map (·.2) = reals pss) : (m.B ++ tells k ch M).map (fun t => (t.1, t.2.1, t.2.2.2)) = (flg (s.E ++ X)).map (fun e => (e.fr, e.ch, e.pk)) := by
  rw [List.map_append, flg_append, List.map_append, h.b, tells_map, hM, newE_flg hX]
theorem newE_len {k ch : Nat} {X : List EN} {psa pss : List PK} (h : NewE k ch X psa pss) : X.length = (reals psa).length := by rw [← h.a, List.length_map]
/-- a frame went -/
structure FrmE (W0 W : World) (y : Nat → Value) (ja : Option Addr) (jn jc n S X Y i B0 : Nat) (s : ST) : Prop where
  ex : ∃ s' m', SC y ja jn jc n S X Y i s' m' ∧ CM W B0 S X Y n s' m' ∧ RelC s' m' ∧ CI (n - 12) jn (i + 1) s' ∧ s'.put = s.put
  blw : Below B0 W0 W
set_option maxRecDepth 1000000 in
set_option maxHeartbeats 4000000 in
theorem car_45 (ja : Option Addr) (jn jc n S X Y i : Nat) (s : ST) (m : MA) (fa : Option Addr) (fc H k : Nat) (M : Value) (drop : Bool) (hi : i < 300) (hjn : jn ≤ 200) :
    Tri Try.prog 486 (pieceOf Try.f4 [1, 1, 1, 1, 1, 1, 1, 1, 1, 1, 1, 1, 0, 1, 0, 0, 1, 0, 0, 1, 1, 1, 1, 1, 1, 1, 1, 1, 1, 1, 1, 0]) (fun y w => SC y ja jn jc n S X Y i s m ∧ SF y fa n fc H k ∧ ((i < jn ∧ ∃ b off, ja = some ⟨b, off, none⟩ ∧ w.cell? ⟨b, off + i * 4 + 3, none⟩ = some (.bool drop)) ∨ (jn ≤ i ∧ drop = false)))
      (fun y w y' w' => SC y' ja jn jc n S X Y i s m ∧ SF y' fa n fc H k ∧ y' 33 = .bool drop ∧ w' = w) := by
  rintro Q y w ⟨⟨s1, s5, s6, s8, s10, s12, s13, s14, s15, s16, s17, s18⟩, ⟨s23, s24, s31⟩, hJ⟩ hQ
  have HQ := hid hQ
  clear hQ
  conv => arg 2; whnf
  rw [fr486]
  simp only [s1, s5, s6, s8, s10, s12, s13, s14, s15, s16, s17, s18, s23, s24, s31]
  clear s1 s5 s6 s8 s10 s12 s13 s14 s15 s16 s17 s18 s23 s24 s31
  rcases hJ with ⟨hlt, b, off, rfl, hc⟩ | ⟨hge, rfl⟩
  · have d1 : decide ((i : Int) < (jn : Int)) = true := decide_eq_true (by omega)
    have d2 : (i : Int) < (jn : Int) := by omega
    go_wp2_with fail
    exact q_fr (N := 486) HQ.out rfl ⟨⟨rfl, rfl, rfl, rfl, rfl, rfl, rfl, rfl, rfl, rfl, rfl, rfl⟩, ⟨rfl, rfl, rfl⟩, rfl, rfl⟩
  · have d1 : decide ((i : Int) < (jn : Int)) = false := decide_eq_false (by omega)
    go_wp2_with fail
    exact q_fr (N := 486) HQ.out rfl ⟨⟨rfl, rfl, rfl, rfl, rfl, rfl, rfl, rfl, rfl, rfl, rfl, rfl⟩, ⟨rfl, rfl, rfl⟩, rfl, rfl⟩
set_option maxRecDepth 1000000 in
set_option maxHeartbeats 4000000 in
theorem car_50 (ja : Option Addr) (jn jc n S X Y i : Nat) (s : ST) (m : MA) (fa : Option Addr) (fc H k lost : Nat) (M : Value) (hl : 0 < m.B.length → lost = s.mi) (hlo : lost ≤ 255) (hmi : s.mi ≤ 200) :
    Tri Try.prog 486 (pieceOf Try.f4 [1, 1, 1, 1, 1, 1, 1, 1, 1, 1, 1, 1, 0, 1, 0, 0, 1, 0, 0, 1, 1, 1, 1, 1, 1, 1, 1, 1, 1, 1, 1, 1, 1, 1, 1, 0]) (fun y w => SC y ja jn jc n S X Y i s m ∧ SF y fa n fc H k ∧ y 28 = M ∧ y 27 = .int .i64 0 ∧ y 29 = .int .i64 (lost : Int) ∧ y 30 = .int .i64 (i : Int))
      (fun y w y' w' => SC y' ja jn jc n S X Y i s m ∧ SF y' fa n fc H k ∧ y' 28 = M ∧ w' = w) := by
  rintro Q y w ⟨⟨s1, s5, s6, s8, s10, s12, s13, s14, s15, s16, s17, s18⟩, ⟨s23, s24, s31⟩, s28, s27, s29, s30⟩ hQ
  have HQ := hid hQ
  clear hQ
  generalize hbl : m.B.length = bl at *
  have Hbl := hid hbl
  clear hbl
  generalize hmie : s.mi = mi at *
  have Hmi := hid hmie
  clear hmie
  conv => arg 2; whnf
  rw [fr486]
  simp only [s1, s5, s6, s8, s10, s12, s13, s14, s15, s16, s17, s18, s23, s24, s31, s28, s27, s29, s30]
  clear s1 s5 s6 s8 s10 s12 s13 s14 s15 s16 s17 s18 s23 s24 s31 s28 s27 s29 s30
  by_cases h0 : 0 < bl
  · obtain rfl : lost = mi := hl h0
    have d1 : decide ((0 : Int) < (bl : Int)) = true := decide_eq_true (by omega)
    have d2 : decide ((bl : Int) > 0) = true := decide_eq_true (by omega)
    clear hl
    go_wp2_with fail
    exact q_fr (N := 486) HQ.out rfl ⟨⟨rfl, rfl, rfl, rfl, rfl, rfl, rfl, by rw [Hbl.out]; rfl, rfl, rfl, by rw [Hmi.out]; rfl, rfl⟩, ⟨rfl, rfl, rfl⟩, rfl, rfl⟩
  · obtain rfl : bl = 0 := by omega
    clear hl
    go_wp2_with fail
    exact q_fr (N := 486) HQ.out rfl ⟨⟨rfl, rfl, rfl, rfl, rfl, rfl, rfl, by rw [Hbl.out]; rfl, rfl, rfl, by rw [Hmi.out]; rfl, rfl⟩, ⟨rfl, rfl, rfl⟩, rfl, rfl⟩
set_option maxRecDepth 1000000 in
set_option maxHeartbeats 16000000 in
theorem car_frame (ja : Option Addr) (jn jc n S X Y i B0 : Nat) (s : ST) (m : MA) (drop : Bool) (hjn : jn ≤ 200) (hi : i < jn + 40) (hn1 : 13 ≤ n) (hn2 : n ≤ 2048) (hB : B0 ≤ S) (hBX : B0 ≤ X) (hBY : B0 ≤ Y) (hC : CI (n - 12) jn i s) (hR : RelC s m)
    (Q : Exit → Act → World → Prop) (y : Nat → Value) (w : World) (hS : SC y ja jn jc n S X Y i s m) (hM : CM w B0 S X Y n s m)
    (hJ : (i < jn ∧ ∃ b off, ja = some ⟨b, off, none⟩ ∧ b < B0 ∧ w.cell? ⟨b, off + i * 4 + 3, none⟩ = some (.bool drop)) ∨ (jn ≤ i ∧ drop = false))
    (hQ : ∀ y' w', FrmE w w' y' ja jn jc n S X Y i B0 s → Q .normal ⟨fr 486 y', []⟩ w' ∧ Q (.exit 1) ⟨fr 486 y', []⟩ w') :
    Code.wp Try.prog (pieceOf Try.f4 [1, 1, 1, 1, 1, 1, 1, 1, 1, 1, 1, 1, 0, 1, 0, 0, 1, 0, 0, 1]) Q ⟨fr 486 y, []⟩ w := by
  have HQ := hid hQ
  obtain ⟨psa, pss, ra, rs, q, age, lo, lo', NX, NY, hN⟩ := hC.next (by omega) (by omega) hjn
  obtain ⟨n1, n2, n3, n4, n5, n6, n7⟩ := nextOf_ok s.l s.tn (n - 12) (fun c hc => (hC.ci c hc).ok) hC.tn (by omega)
  have hms := hC.ms
  have htn := hC.tn
  obtain ⟨la1, la2, la3⟩ := lost_a hC
  obtain ⟨lb1, lb2, lb3⟩ := lost_b hC hjn
  have hnext := fun (W : World) (hs : SndL W m.qb m.qc s.l) => next_ok 77 n s.ms s.tn m.qb m.qc i s.l W hs (by decide) hn1 hn2 hms htn (by omega)
  obtain ⟨nx, hnx⟩ : ∃ nx, nx = nextOf s.l s.tn (n - 12) := ⟨_, rfl⟩
  rw [← hnx] at hN n1 n2 n3 n4 n5 n6 n7 hnext
  have Hnext := hid hnext
  have HN := hid hN
  have HC := hid hC
  have HR := hid hR
  have HJ := hid hJ
  have HN5 := hid n5
  have HN6 := hid n6
  have HLb := hid lb1
  have hEl := sub_len hN.heard
  have hput := hN.heard.lp
  have hNl := newE_len hN.nex
  have hAl : m.A.length = s.E.length := by have := congrArg List.length hR.a; rwa [List.length_map, List.length_map] at this
  have hBl : m.B.length = (flg s.E).length := by have := congrArg List.length hR.b; rwa [List.length_map, List.length_map] at this
  have hEl2 : s.E.length + (reals psa).length ≤ 200 := by
    have h1 : (s.E ++ NX).length ≤ s.put.length := hEl
    have h2 : s.put.length ≤ jn := hput.2
    rw [List.length_append, hNl] at h1
    omega
  have HAl := hid hAl
  have HBl := hid hBl
  have hcs : s.cs.length ≤ 240 := by have := hC.lc; omega
  have hgl : s.gs.length ≤ 240 := by have := hC.lc; have := hC.ln; omega
  have hmi : s.mi ≤ 200 := by have := hC.mi; have := hC.d2; omega
  clear hQ hN hnx hC hR hJ n5 n6 n7 lb1 hEl hput hNl hAl hBl hnext
  obtain ⟨s1, s5, s6, s8, s10, s12, s13, s14, s15, s16, s17, s18⟩ := hS
  have t0 : w.cell? ⟨S, 0, none⟩ = some (.int .i64 77) := by rw [cell_of_row _ _ _ _ _ _ hM.sx]; rfl
  have t1 : w.cell? ⟨S, 1, none⟩ = some (.int .i64 (n : Int)) := by rw [cell_of_row _ _ _ _ _ _ hM.sx]; rfl
  have t2 : w.cell? ⟨S, 2, none⟩ = some (.int .i64 (s.ms : Int)) := by rw [cell_of_row _ _ _ _ _ _ hM.sx]; rfl
  have t3 : w.cell? ⟨S, 3, none⟩ = some (.int .i64 (s.tn : Int)) := by rw [cell_of_row _ _ _ _ _ _ hM.sx]; rfl
  have t4 : w.cell? ⟨S, 4, none⟩ = some (.slice (some ⟨m.qb, 0, none⟩) 7 m.qc) := by rw [cell_of_row _ _ _ _ _ _ hM.sx]; rfl
  have hnx2 := Hnext.out w hM.sl
  unfold sv at hnx2
  rw [show ((77 : Nat) : Int) = 77 from rfl] at hnx2
  have HMm := hid hM
  clear hM Hnext
  conv => arg 2; whnf
  rw [fr486]
  simp only [s1, s5, s6, s8, s10, s12, s13, s14, s15, s16, s17, s18]
  clear s1 s5 s6 s8 s10 s12 s13 s14 s15 s16 s17 s18
  refine wp_seq_k (fun K0 hK0 => ?_)
  go_wp2_with fail
  refine hK0.out _ _ ?_
  refine wp_seq_k (fun K1 hK1 => ?_)
  go_wp2_with fail
  refine hnx2.mono ?_
  rintro e V1 ⟨⟨qb2, qc2, da, dc, rfl, hs2, hfr⟩, hb⟩
  unfold sv
  rw [show ((77 : Nat) : Int) = 77 from rfl]
  have HM1 := hid (HMm.out.below hb)
  have B1 := hid (hb.mono (Nat.le_trans hB (Nat.le_of_lt (row_lt HMm.out.sx))))
  have hbx := HM1.out.sx
  have t0 : V1.cell? ⟨S, 0, none⟩ = some (.int .i64 77) := by rw [cell_of_row _ _ _ _ _ _ hbx]; rfl
  have t1 : V1.cell? ⟨S, 1, none⟩ = some (.int .i64 (n : Int)) := by rw [cell_of_row _ _ _ _ _ _ hbx]; rfl
  have t2 : V1.cell? ⟨S, 2, none⟩ = some (.int .i64 (s.ms : Int)) := by rw [cell_of_row _ _ _ _ _ _ hbx]; rfl
  have t3 : V1.cell? ⟨S, 3, none⟩ = some (.int .i64 (s.tn : Int)) := by rw [cell_of_row _ _ _ _ _ _ hbx]; rfl
  have t4 : V1.cell? ⟨S, 4, none⟩ = some (.slice (some ⟨m.qb, 0, none⟩) 7 m.qc) := by rw [cell_of_row _ _ _ _ _ _ hbx]; rfl
  have fz := frozen_row hbx
  obtain ⟨m2, hm2⟩ : ∃ m2, m2 = (s.ms + 1) % 256 := ⟨_, rfl⟩
  rw [← hm2]
  obtain ⟨f1, f2⟩ := five hbx (.int .i64 77) (.int .i64 (n : Int)) (.int .i64 (m2 : Int)) (.int .i64 (nx.tn : Int)) (.slice (some ⟨qb2, 0, none⟩) 7 qc2)
  have HM2 : Hid (CM (((((V1.setCell ⟨S, 0, none⟩ (.int .i64 77)).setCell ⟨S, 1, none⟩ (.int .i64 (n : Int))).setCell ⟨S, 2, none⟩ (.int .i64 (m2 : Int))).setCell ⟨S, 3, none⟩ (.int .i64 (nx.tn : Int))).setCell ⟨S, 4, none⟩ (.slice (some ⟨qb2, 0, none⟩) 7 qc2)) B0 S X Y n { s with l := nx.l, ms := m2, tn := nx.tn } { m with qb := qb2, qc := qc2 }) := HM1.out.snd (s' := { s with l := nx.l, ms := m2, tn := nx.tn }) f2 hs2 f1 rfl rfl rfl rfl rfl rfl
  have HFr := hid ((RdT.ofOwn hfr).other f2 hbx (by decide))
  have B2 := hid (B1.out.grown f2 (Nat.le_trans hB (Nat.le_of_lt (row_lt hbx))) (fun k e => by cases e; exact hB))
  have Hm2 := hid hm2
  clear hbx f1 f2 HM1 B1 hnx2 hs2 hb hfr hm2 HMm
  go_wp2_with fail
  refine hK1.out _ _ ?_
  clear t0 t1 t2 t3 t4 fz
  generalize ((((V1.setCell ⟨S, 0, none⟩ (.int .i64 77)).setCell ⟨S, 1, none⟩ (.int .i64 (n : Int))).setCell ⟨S, 2, none⟩ (.int .i64 (m2 : Int))).setCell ⟨S, 3, none⟩ (.int .i64 (nx.tn : Int))).setCell ⟨S, 4, none⟩ (.slice (some ⟨qb2, 0, none⟩) 7 qc2) = V2 at *
  refine wp_seq_k (fun K2 hK2 => ?_)
  go_wp2_with fail
  refine hK2.out _ _ ?_
  obtain ⟨room, hroom⟩ : ∃ r, r = n - 12 := ⟨_, rfl⟩
  have hnr : 12 + room = n := by omega
  have hrm : 1 ≤ room ∧ room ≤ 2036 := by omega
  have Hroom := hid hroom
  clear hroom
  have hup := hid (unpack_ok 77 nx.ch s.ms nx.ow nx.fi da room dc nx.data i V2 (by decide) n1 hms n2 n3 (by omega) (by rw [hnr]; exact HFr.out.rd) HN6.out (by rw [Hroom.out]; exact HN5.out) hrm.1 hrm.2)
  rw [hnr] at hup
  have Hnr := hid hnr
  clear hnr
  refine wp_seq_k (fun K3 hK3 => ?_)
  go_wp2_with fail
  refine hup.out.mono ?_
  rintro e V3 ⟨⟨ua, uc, rfl, _⟩, hb⟩
  rw [show ((77 : Nat) : Int) = 77 from rfl]
  have HM3 := hid (HM2.out.below hb)
  have B3 := hid (B2.out.trans (hb.mono (Nat.le_trans hB (Nat.le_of_lt (row_lt HM2.out.sx)))))
  have HFr3 := hid (HFr.out.below hb)
  clear hup hb HM2 B2 HFr
  have b4 := below_alloc V3 (.cells #[.int .i64 77, .int .i64 (nx.ch : Int), .int .i64 (s.ms : Int), .int .i64 (nx.ow : Int), .int .i64 (nx.fi : Int)] 46)
  have r4 := heap_alloc_new V3 (.cells #[.int .i64 77, .int .i64 (nx.ch : Int), .int .i64 (s.ms : Int), .int .i64 (nx.ow : Int), .int .i64 (nx.fi : Int)] 46)
  have HM4 := hid (HM3.out.below b4)
  have B4 := hid (B3.out.trans (b4.mono (Nat.le_trans hB (Nat.le_of_lt (row_lt HM3.out.sx)))))
  have HFr4 := hid (HFr3.out.below b4)
  obtain ⟨H, hH⟩ : ∃ H, H = V3.heap.size := ⟨_, rfl⟩
  rw [← hH] at r4
  have R4 := hid r4
  go_wp2_with fail
  refine hK3.out _ _ ?_
  rw [← hH]
  clear b4 r4 hH HM3 B3 HFr3
  generalize V3.alloc (.cells #[.int .i64 77, .int .i64 (nx.ch : Int), .int .i64 (s.ms : Int), .int .i64 (nx.ow : Int), .int .i64 (nx.fi : Int)] 46) = V4 at *
  refine wp_seq_k (fun K4 hK4 => ?_)
  go_wp2_with fail
  refine hK4.out _ _ ?_
  refine wp_seq_k (fun K5 hK5 => ?_)
  go_wp2_with fail
  refine hK5.out _ _ ?_
  refine wp_seq_k (fun K6 hK6 => ?_)
  go_wp2_with fail
  refine hK6.out _ _ ?_
  have hhe := hid (hear_ok 77 n s.ma m.eb m.ec s.la nx.ch s.ms nx.ow nx.fi room nx.data i da dc psa ra V4 HM4.out.xl (by decide) Hroom.out hn1 hn2 la2 la3 hms n2 n3 (by omega) HFr4.out.rd HN6.out (by rw [Hroom.out]; exact HN5.out) HN.out.ha)
  unfold lv at hhe
  rw [show ((77 : Nat) : Int) = 77 from rfl, la1] at hhe
  have t0 : V4.cell? ⟨X, 0, none⟩ = some (.int .i64 77) := by rw [cell_of_row _ _ _ _ _ _ HM4.out.xx]; rfl
  have t1 : V4.cell? ⟨X, 1, none⟩ = some (.int .i64 (n : Int)) := by rw [cell_of_row _ _ _ _ _ _ HM4.out.xx]; rfl
  have t2 : V4.cell? ⟨X, 2, none⟩ = some (.int .i64 s.ma) := by rw [cell_of_row _ _ _ _ _ _ HM4.out.xx]; rfl
  have t3 : V4.cell? ⟨X, 3, none⟩ = some (.slice (some ⟨m.eb, 0, none⟩) 7 m.ec) := by rw [cell_of_row _ _ _ _ _ _ HM4.out.xx]; rfl
  refine wp_seq_k (fun K7 hK7 => ?_)
  go_wp2_with fail
  refine hhe.out.mono ?_
  rintro e V5 ⟨⟨eb2, ec2, M, ha, hc, rfl, hle, hHL, hMp⟩, hb⟩
  unfold lv
  rw [show ((77 : Nat) : Int) = 77 from rfl, ← Hm2.out, show ((0 : Nat) : Int) = 0 from rfl]
  have HM5 := hid (HM4.out.below hb)
  have B5 := hid (B4.out.trans (hb.mono (Nat.le_trans hB (Nat.le_of_lt (row_lt HM4.out.sx)))))
  have HFr5 := hid (HFr4.out.below hb)
  have R5 := hid (row_below R4.out hb)
  have HMp := hid hMp
  have hbx := HM5.out.xx
  have t0 : V5.cell? ⟨X, 0, none⟩ = some (.int .i64 77) := by rw [cell_of_row _ _ _ _ _ _ hbx]; rfl
  have t1 : V5.cell? ⟨X, 1, none⟩ = some (.int .i64 (n : Int)) := by rw [cell_of_row _ _ _ _ _ _ hbx]; rfl
  have t2 : V5.cell? ⟨X, 2, none⟩ = some (.int .i64 s.ma) := by rw [cell_of_row _ _ _ _ _ _ hbx]; rfl
  have t3 : V5.cell? ⟨X, 3, none⟩ = some (.slice (some ⟨m.eb, 0, none⟩) 7 m.ec) := by rw [cell_of_row _ _ _ _ _ _ hbx]; rfl
  have fz := frozen_row hbx
  obtain ⟨f1, f2⟩ := four hbx (.int .i64 77) (.int .i64 (n : Int)) (.int .i64 (m2 : Int)) (.slice (some ⟨eb2, 0, none⟩) 7 ec2)
  have hHL2 := hHL.other f2 hbx (by decide) (by decide)
  have HFM : Hid (FM ((((V5.setCell ⟨X, 0, none⟩ (.int .i64 77)).setCell ⟨X, 1, none⟩ (.int .i64 (n : Int))).setCell ⟨X, 2, none⟩ (.int .i64 (m2 : Int))).setCell ⟨X, 3, none⟩ (.slice (some ⟨eb2, 0, none⟩) 7 ec2)) H da n dc (frameB 77 nx.ch s.ms nx.ow nx.fi nx.data i) nx.ch s.ms nx.ow nx.fi) := ⟨row_grown R5.out f2 (ne_tt R5.out hbx (by decide)), HFr5.out.other f2 hbx (by decide)⟩
  have HM6 := hid (HM5.out.xbox (la := hearL s.la nx.ch nx.ow ra) (ma := (m2 : Int)) f2 hle f1)
  have B6 := hid (B5.out.grown f2 (Nat.le_trans hB (Nat.le_of_lt (row_lt HM5.out.sx))) (fun k e => by cases e; exact hBX))
  have HH6 := hid hHL2
  clear hbx f1 f2 HM5 B5 HFr5 R5 hhe hb hle hHL hMp hHL2 HM4 B4 HFr4 R4
  go_wp2_with fail
  refine hK7.out _ _ ?_
  clear t0 t1 t2 t3 fz
  generalize (((V5.setCell ⟨X, 0, none⟩ (.int .i64 77)).setCell ⟨X, 1, none⟩ (.int .i64 (n : Int))).setCell ⟨X, 2, none⟩ (.int .i64 (m2 : Int))).setCell ⟨X, 3, none⟩ (.slice (some ⟨eb2, 0, none⟩) 7 ec2) = V6 at *
  refine wp_seq_k (fun K8 hK8 => ?_)
  go_wp2_with fail
  refine hK8.out _ _ ?_
  refine wp_seq_k (fun K9 hK9 => ?_)
  go_wp2_with fail
  refine hK9.out _ _ ?_
  have hMl : M.length = (reals psa).length := by have := congrArg List.length HMp.out; rw [List.length_map] at this; exact this
  refine wp_seq_k (fun K10 hK10 => ?_)
  refine Tri.use (car_a ja jn jc n S X Y i B0 { s with l := nx.l, ms := m2, tn := nx.tn, la := hearL s.la nx.ch nx.ow ra, ma := (m2 : Int) } { m with qb := qb2, qc := qc2, eb := eb2, ec := ec2 } da dc H s.cs.length nx.ch (frameB 77 nx.ch s.ms nx.ow nx.fi nx.data i) s.ms nx.ow nx.fi M ha hc V4.heap.size hB (by rw [hMl]; show m.A.length + _ ≤ _; have := HAl.out; omega)) rfl ⟨⟨rfl, rfl, rfl, rfl, rfl, rfl, rfl, rfl, rfl, rfl, rfl, rfl⟩, ⟨rfl, rfl, rfl⟩, rfl, HM6.out, HH6.out, HFM.out⟩ ?_
  rintro y7 V7 ⟨va, vc, hS7, hF7s, hM7, hFM7, hb7⟩
  refine hK10.out _ _ ?_
  have B7 := hid (B6.out.trans hb7)
  have HM7 := hid hM7
  have HFM7 := hid hFM7
  have HA2 := hid (relA (k := s.cs.length) (ch := nx.ch) HR.out HN.out.nex HMp.out)
  have HA3 := hid (relA (k := s.cs.length) (ch := nx.ch) HR.out HN.out.ney HMp.out)
  dsimp only at hS7
  obtain ⟨A2, hA2⟩ : ∃ A2, A2 = m.A ++ tells s.cs.length nx.ch M := ⟨_, rfl⟩
  dsimp only at HM7
  rw [← hA2] at HM7 HA2 HA3 hS7
  clear hM7 hFM7 hb7 HM6 B6 HH6 HFM HMp hMl hA2
  have hJ7 : (i < jn ∧ ∃ b off, ja = some ⟨b, off, none⟩ ∧ V7.cell? ⟨b, off + i * 4 + 3, none⟩ = some (.bool drop)) ∨ (jn ≤ i ∧ drop = false) := by
    rcases HJ.out with ⟨h1, b, off, h2, h3, h4⟩ | h
    · exact .inl ⟨h1, b, off, h2, (World.cell?_of_block (B7.out.block b h3)).trans h4⟩
    · exact .inr h
  refine wp_seq_k (fun K11 hK11 => ?_)
  refine car_45 ja jn jc n S X Y i _ _ da dc H s.cs.length (.int .i64 0) drop (by omega) hjn _ y7 V7 ⟨hS7, hF7s, hJ7⟩ ?_
  rintro y8 V8 ⟨⟨s1, s5, s6, s8, s10, s12, s13, s14, s15, s16, s17, s18⟩, ⟨s23, s24, s31⟩, s33, rfl⟩
  refine hK11.out _ _ ?_
  dsimp only at s12 s13 s14 s15 s16 s17
  clear hS7 hF7s hJ7
  have h1 : V8.cell? ⟨H, 1, none⟩ = some (.int .i64 (nx.ch : Int)) := by rw [cell_of_row _ _ _ _ _ _ HFM7.out.hd]; rfl
  have b9 := below_alloc V8 (.cells #[.int .i64 (nx.ch : Int)] 3)
  have hn9 : ∀ (q : Nat) (u : Value), [Value.int .i64 (nx.ch : Int)][q]? = some u → (V8.alloc (.cells #[.int .i64 (nx.ch : Int)] 3)).cell? ((⟨V8.heap.size, 0, none⟩ : Addr).add q) = some u := new_cells V8 [.int .i64 (nx.ch : Int)] 3
  have HM9 := hid (HM7.out.below b9)
  have B9 := hid (B7.out.trans (b9.mono (Nat.le_trans hB (Nat.le_of_lt (row_lt HM7.out.sx)))))
  have HFM9 := hid (HFM7.out.below b9)
  have HN9 := hid hn9
  have hB9 : Hid (B0 ≤ (V8.alloc (.cells #[.int .i64 (nx.ch : Int)] 3)).heap.size) := hid (Nat.le_trans hB (Nat.le_of_lt (row_lt HM9.out.sx)))
  clear b9 hn9 HM7 B7 HFM7
  obtain ⟨i3, hi3, hz3, hs3, hb3⟩ := info_parts Try.info3
  obtain ⟨i4, hi4, hz4, hs4, hb4⟩ := info_parts Try.info4
  rw [fr486]
  simp only [s1, s5, s6, s8, s10, s12, s13, s14, s15, s16, s17, s18, s23, s24, s31, s33]
  clear s1 s5 s6 s8 s10 s12 s13 s14 s15 s16 s17 s18 s23 s24 s31 s33
  refine wp_seq_k (fun K12 hK12 => ?_)
  go_wp2_with (at_builtin; refine hold ?_)
  unfold Hid
  refine wpList_append_wide_at rfl _ _ 30 rfl B0 3 i3 _ 1 8 Try.underlying30 hi3 hz3 hs3 hb3 rfl (by decide) (.slice m.ca s.cs.length m.cc) s.cs.length (vin s.cs) rfl HM9.out.rc ⟨V8.heap.size, 0, none⟩ 1 1 [.int .i64 (nx.ch : Int)] rfl rfl HN9.out (by intro u hu; rw [List.mem_singleton] at hu; subst hu; rfl) (by unfold maxLen; omega) (by omega) hB9.out ?_
  intro v' V10 o10 g10 _
  obtain ⟨ca2, cc2, rfl, _, _, _⟩ := own_form o10
  have hlt := fun k hk => (HM9.out.rc.lt k hk).1
  have t3 := fun {T' : TypeId} (hT : 3 ≠ T') => own_type HM9.out.rc hT
  have HFM10 := hid (HFM9.out.kept g10 (t3 (by decide)) (t3 (by decide)))
  have HM10 := hid (HM9.out.appC o10 g10)
  have B10 := hid (B9.out.grown g10 hB9.out hlt)
  clear o10 g10 hlt t3 HM9 B9 HFM9 hB9 HN9 h1
  have b11 := below_alloc V10 (.cells #[.bool drop] 4)
  have hn11 : ∀ (q : Nat) (u : Value), [Value.bool drop][q]? = some u → (V10.alloc (.cells #[.bool drop] 4)).cell? ((⟨V10.heap.size, 0, none⟩ : Addr).add q) = some u := new_cells V10 [.bool drop] 4
  have HM11 := hid (HM10.out.below b11)
  have B11 := hid (B10.out.trans (b11.mono (Nat.le_trans hB (Nat.le_of_lt (row_lt HM10.out.sx)))))
  have HFM11 := hid (HFM10.out.below b11)
  have HN11 := hid hn11
  have hB11 : Hid (B0 ≤ (V10.alloc (.cells #[.bool drop] 4)).heap.size) := hid (Nat.le_trans hB (Nat.le_of_lt (row_lt HM11.out.sx)))
  clear b11 hn11 HM10 B10 HFM10
  go_wp2_with (at_builtin; refine hold ?_)
  unfold Hid
  refine wpList_append_wide_at rfl _ _ 57 rfl B0 4 i4 _ 1 1 Try.underlying57 hi4 hz4 hs4 hb4 rfl (by decide) (.slice m.ga s.gs.length m.gc) s.gs.length (vbo s.gs) rfl HM11.out.rg ⟨V10.heap.size, 0, none⟩ 1 1 [.bool drop] rfl rfl HN11.out (by intro u hu; rw [List.mem_singleton] at hu; subst hu; rfl) (by unfold maxLen; omega) (by omega) hB11.out ?_
  intro v' V12 o12 g12 _
  obtain ⟨ga2, gc2, rfl, _, _, _⟩ := own_form o12
  have hlt := fun k hk => (HM11.out.rg.lt k hk).1
  have t4 := fun {T' : TypeId} (hT : 4 ≠ T') => own_type HM11.out.rg hT
  have HFM12 := hid (HFM11.out.kept g12 (t4 (by decide)) (t4 (by decide)))
  have HM12 := hid (HM11.out.appG o12 g12)
  have B12 := hid (B11.out.grown g12 hB11.out hlt)
  clear o12 g12 hlt t4 HM11 B11 HFM11 hB11 HN11
  go_wp2_with fail
  refine hK12.out _ _ ?_
  have hcl : Hid ((s.cs ++ [nx.ch]).length = s.cs.length + 1) := by unfold Hid; rw [List.length_append]; rfl
  have hgl2 : Hid ((s.gs ++ [drop]).length = s.gs.length + 1) := by unfold Hid; rw [List.length_append]; rfl
  have HBr := hid (show ((flg (s.E ++ NY)).map fun e => (e.fr, e.ch, e.pk)) = (flg s.E).map fun e => (e.fr, e.ch, e.pk) by
    rw [flg_append, List.map_append, newE_flg HN.out.ney]
    exact List.append_nil _)
  cases drop with
  | true =>
    have hij : i < jn := by
      rcases HJ.out with ⟨h, _⟩ | ⟨_, h⟩
      · exact h
      · cases h
    have a1 : (s.mi : Int) + 1 = ((s.mi + 1 : Nat) : Int) := by omega
    have a2 : IntKind.i64.wrap ((s.mi : Int) + 1) = ((s.mi + 1 : Nat) : Int) := by rw [a1]; exact IntWalk.i64_in _ (by omega)
    have HF := hid (HM12.out.congr (s' := s.dropd nx q age lo' NY ra) rfl rfl rfl (by show (((s.ms + 1) % 256 : Nat) : Int) = (m2 : Int); rw [Hm2.out]) rfl Hm2.out.symm rfl rfl rfl)
    generalize hmi1 : s.mi + 1 = mi1 at *
    have Hmi1 := hid hmi1
    clear hmi1 HM12
    go_wp2_with fail
    refine q_frX (N := 486) (fun y' w' h => (HQ.out y' w' h).2) rfl ⟨⟨s.dropd nx q age lo' NY ra, { m with qb := qb2, qc := qc2, eb := eb2, ec := ec2, aa := va, ac := vc, A := A2, ca := ca2, cc := cc2, ga := ga2, gc := gc2 }, ⟨rfl, rfl, rfl, rfl, rfl, rfl, rfl, rfl, ?_, ?_, ?_, rfl⟩, HF.out, ⟨HR.out.p, HA3.out, ?_⟩, HN.out.drop hij, rfl⟩, B12.out⟩
    · show Value.slice ca2 _ cc2 = Value.slice ca2 (s.cs ++ [nx.ch]).length cc2
      rw [hcl.out]
    · show Value.slice ga2 _ gc2 = Value.slice ga2 (s.gs ++ [true]).length gc2
      rw [hgl2.out]
    · show Value.int .i64 _ = Value.int .i64 ((s.mi + 1 : Nat) : Int)
      rw [Hmi1.out]
    · exact HR.out.b.trans HBr.out.symm
  | false =>
    have hhe := hid (hear_ok 77 n s.mb m.fb m.fc s.ls nx.ch s.ms nx.ow nx.fi room nx.data i da dc pss rs V12 HM12.out.yl (by decide) Hroom.out hn1 hn2 lb2 lb3 hms n2 n3 (by omega) HFM12.out.fr.rd HN6.out (by rw [Hroom.out]; exact HN5.out) HN.out.hs)
    unfold lv at hhe
    rw [show ((77 : Nat) : Int) = 77 from rfl] at hhe
    have hlo : lostOf s.mb s.ms ≤ 255 := by unfold lostOf; split <;> omega
    obtain ⟨lo9, hlo9⟩ : ∃ l, l = lostOf s.mb s.ms := ⟨_, rfl⟩
    rw [← hlo9] at hhe hlo
    have Hlo9 := hid hlo9
    clear hlo9
    have t0 : V12.cell? ⟨Y, 0, none⟩ = some (.int .i64 77) := by rw [cell_of_row _ _ _ _ _ _ HM12.out.yx]; rfl
    have t1 : V12.cell? ⟨Y, 1, none⟩ = some (.int .i64 (n : Int)) := by rw [cell_of_row _ _ _ _ _ _ HM12.out.yx]; rfl
    have t2 : V12.cell? ⟨Y, 2, none⟩ = some (.int .i64 s.mb) := by rw [cell_of_row _ _ _ _ _ _ HM12.out.yx]; rfl
    have t3 : V12.cell? ⟨Y, 3, none⟩ = some (.slice (some ⟨m.fb, 0, none⟩) 7 m.fc) := by rw [cell_of_row _ _ _ _ _ _ HM12.out.yx]; rfl
    refine wp_seq_k (fun K13 hK13 => ?_)
    go_wp2_with fail
    refine hK13.out _ _ ?_
    refine wp_seq_k (fun K14 hK14 => ?_)
    go_wp2_with fail
    refine hhe.out.mono ?_
    rintro e V13 ⟨⟨fb2, fc2, M2, ha2, hc2, rfl, hle, hHL, hMp⟩, hb⟩
    unfold lv
    rw [show ((77 : Nat) : Int) = 77 from rfl, ← Hm2.out]
    have HM13 := hid (HM12.out.below hb)
    have B13 := hid (B12.out.trans (hb.mono (Nat.le_trans hB (Nat.le_of_lt (row_lt HM12.out.sx)))))
    have HFM13 := hid (HFM12.out.below hb)
    have HMp := hid hMp
    have hbx := HM13.out.yx
    have t0 : V13.cell? ⟨Y, 0, none⟩ = some (.int .i64 77) := by rw [cell_of_row _ _ _ _ _ _ hbx]; rfl
    have t1 : V13.cell? ⟨Y, 1, none⟩ = some (.int .i64 (n : Int)) := by rw [cell_of_row _ _ _ _ _ _ hbx]; rfl
    have t2 : V13.cell? ⟨Y, 2, none⟩ = some (.int .i64 s.mb) := by rw [cell_of_row _ _ _ _ _ _ hbx]; rfl
    have t3 : V13.cell? ⟨Y, 3, none⟩ = some (.slice (some ⟨m.fb, 0, none⟩) 7 m.fc) := by rw [cell_of_row _ _ _ _ _ _ hbx]; rfl
    have fz := frozen_row hbx
    obtain ⟨f1, f2⟩ := four hbx (.int .i64 77) (.int .i64 (n : Int)) (.int .i64 (m2 : Int)) (.slice (some ⟨fb2, 0, none⟩) 7 fc2)
    have HH14 := hid (hHL.other f2 hbx (by decide) (by decide))
    have HFM14 := hid (HFM13.out.kept f2 (row_type hbx (by decide)) (row_type hbx (by decide)))
    have hM14 := HM13.out.ybox (ls := hearL s.ls nx.ch nx.ow rs) (mb := (m2 : Int)) f2 hle f1
    have HM14 := hid (hM14.congr (s' := { s.heard nx q age lo NX ra rs with mi := s.mi }) rfl rfl rfl (by show (((s.ms + 1) % 256 : Nat) : Int) = (m2 : Int); rw [Hm2.out]) (by show (((s.ms + 1) % 256 : Nat) : Int) = (m2 : Int); rw [Hm2.out]) Hm2.out.symm rfl rfl rfl)
    have B14 := hid (B13.out.grown f2 (Nat.le_trans hB (Nat.le_of_lt (row_lt HM13.out.sx))) (fun k e => by cases e; exact hBY))
    clear hbx f1 f2 HM13 B13 HFM13 hhe hb hle hHL hMp hM14 HM12 B12 HFM12
    go_wp2_with fail
    refine hK14.out _ _ ?_
    clear t0 t1 t2 t3 fz
    generalize (((V13.setCell ⟨Y, 0, none⟩ (.int .i64 77)).setCell ⟨Y, 1, none⟩ (.int .i64 (n : Int))).setCell ⟨Y, 2, none⟩ (.int .i64 (m2 : Int))).setCell ⟨Y, 3, none⟩ (.slice (some ⟨fb2, 0, none⟩) 7 fc2) = V14 at *
    have hlb : 0 < m.B.length → lo9 = s.mi := fun h => by
      rw [Hlo9.out]
      refine HLb.out ?_
      rw [HBl.out] at h
      obtain ⟨e, he⟩ := List.length_pos_iff_exists_mem.1 h
      exact ⟨e, (List.mem_filter.1 he).1, (List.mem_filter.1 he).2⟩
    refine wp_seq_k (fun K15 hK15 => ?_)
    refine Tri.use (car_50 ja jn jc n S X Y i { s.heard nx q age lo NX ra rs with mi := s.mi } { m with qb := qb2, qc := qc2, eb := eb2, ec := ec2, fb := fb2, fc := fc2, aa := va, ac := vc, A := A2, ca := ca2, cc := cc2, ga := ga2, gc := gc2 } da dc H s.cs.length lo9 (.slice ha2 M2.length hc2) hlb hlo hmi) rfl ⟨⟨rfl, rfl, rfl, rfl, rfl, rfl, rfl, rfl, ?_, ?_, rfl, rfl⟩, ⟨rfl, rfl, rfl⟩, rfl, rfl, rfl, rfl⟩ ?_
    · show Value.slice ca2 _ cc2 = Value.slice ca2 (s.cs ++ [nx.ch]).length cc2
      rw [hcl.out]
    · show Value.slice ga2 _ gc2 = Value.slice ga2 (s.gs ++ [false]).length gc2
      rw [hgl2.out]
    rintro y15 V15 ⟨⟨s1, s5, s6, s8, s10, s12, s13, s14, s15, s16, s17, s18⟩, ⟨s23, s24, s31⟩, s28, rfl⟩
    refine hK15.out _ _ ?_
    dsimp only [ST.heard] at s12 s13 s14 s15 s16
    rw [hcl.out] at s15
    rw [hgl2.out] at s16
    have hM2l : M2.length ≤ (reals psa).length := by
      have h1 := congrArg List.length HMp.out
      rw [List.length_map] at h1
      have h2 := congrArg List.length HN.out.nex.b
      rw [List.length_map] at h2
      have h3 := newE_len HN.out.nex
      have h4 := List.length_filter_le (·.fl) NX
      have h5 : M2.length = (reals pss).length := h1
      omega
    have hBl3 : m.B.length ≤ s.E.length := by
      rw [HBl.out]
      exact List.length_filter_le _ _
    rw [fr486]
    simp only [s1, s5, s6, s8, s10, s12, s13, s14, s15, s16, s18, s23, s24, s28, s31]
    clear s1 s5 s6 s8 s10 s12 s13 s14 s15 s16 s17 s18 s23 s24 s28 s31
    refine wp_seq_k (fun K16 hK16 => ?_)
    go_wp2_with fail
    refine hK16.out _ _ ?_
    have HM16 := hid (HM14.out.congr (s' := s.heard nx q age lo NX ra rs) rfl rfl rfl rfl rfl rfl rfl rfl rfl)
    refine Tri.use (car_b ja jn jc n S X Y i B0 (s.heard nx q age lo NX ra rs) { m with qb := qb2, qc := qc2, eb := eb2, ec := ec2, fb := fb2, fc := fc2, aa := va, ac := vc, A := A2, ca := ca2, cc := cc2, ga := ga2, gc := gc2 } da dc H s.cs.length nx.ch (frameB 77 nx.ch s.ms nx.ow nx.fi nx.data i) s.ms nx.ow nx.fi M2 ha2 hc2 V12.heap.size hB (by show m.B.length + _ ≤ _; omega)) rfl ⟨⟨rfl, rfl, rfl, rfl, rfl, rfl, rfl, rfl, ?_, ?_, rfl, rfl⟩, ⟨rfl, rfl, rfl⟩, rfl, HM16.out, HH14.out, HFM14.out⟩ ?_
    · show Value.slice ca2 _ cc2 = Value.slice ca2 (s.cs ++ [nx.ch]).length cc2
      rw [hcl.out]
    · show Value.slice ga2 _ gc2 = Value.slice ga2 (s.gs ++ [false]).length gc2
      rw [hgl2.out]
    rintro y17 V17 ⟨vb2, vc2, hS17, _, hM17, _, hb17⟩
    exact (HQ.out y17 V17 ⟨⟨s.heard nx q age lo NX ra rs, _, hS17, hM17, ⟨HR.out.p, HA2.out, relB (m := m) HR.out HN.out.nex HMp.out⟩, HN.out.heard, rfl⟩, B14.out.trans hb17⟩).1
end Go.Proofs.Ytjiipmalahhcpaa
