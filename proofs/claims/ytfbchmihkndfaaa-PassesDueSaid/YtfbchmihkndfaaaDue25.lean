/- PassesDue: the law: all stretches of time. -/
import Derived.Test.YtfbchmihkndfaaaDue24
namespace Go.Proofs.Ytfbchmihkndfaaa
set_option linter.unusedVariables false
open Go.RowKit

/-- from a to b what has to go has room -/
def OkAB (F Y N r : Nat → Nat) (m a b : Nat) : Prop := needTo F Y N a b m ≤ rm r a b
def CanA (F Y N r : Nat → Nat) (m a : Nat) : Prop := ∀ a', a' < a → ∀ b', a' ≤ b' → b' ≤ 40 → OkAB F Y N r m a' b'
def CanB (F Y N r : Nat → Nat) (m a b : Nat) : Prop := CanA F Y N r m a ∧ ∀ b', a ≤ b' → b' < b → OkAB F Y N r m a b'
def BI (W1 : World) (wa : Option Addr) (wn wc RB : Nat) (la : Option Addr) (m lc a : Nat) (F Y N r : Nat → Nat) (y : Nat → Value) (W : World) : Prop :=
  ∃ (b : Nat) (c : Bool), a ≤ b ∧ b ≤ 41 ∧ SCl y wa wn wc RB la m lc c a ∧ y 19 = .int .i64 (b : Int) ∧ (c = true ↔ CanB F Y N r m a b) ∧ W = W1
theorem need_le (F Y N : Nat → Nat) (a b : Nat) : ∀ m, (∀ i, i < m → N i ≤ 1000) → needTo F Y N a b m ≤ 1000 * m
  | 0, _ => Nat.zero_le _
  | m + 1, h => by
    have h1 := need_le F Y N a b m (fun i hi => h i (by omega))
    have h2 := h m (by omega)
    show needTo F Y N a b m + (if a ≤ F m ∧ Y m ≤ b then N m else 0) ≤ _
    split <;> omega
set_option maxRecDepth 1000000 in
set_option maxHeartbeats 4000000 in
theorem dl_bs (W1 : World) (wa : Option Addr) (wn wc RB : Nat) (la : Option Addr) (m lc a : Nat) (c : Bool) (F Y N r : Nat → Nat) (hJ : JobOk m F Y N) (hj : JA W1 la m lc F Y N) (hr : ∀ t, r t ≤ 10000) (hG : Gn W1 RB 40 (fun u => (r u : Int))) (ha : a ≤ 40) (hc : c = true ↔ CanA F Y N r m a) :
    Tri Try.prog 272 (pieceOf Try.f3 [1, 1, 1, 1, 1, 1, 1, 0, 1, 0, 0, 1, 0, 0, 1]) (fun y w => SCl y wa wn wc RB la m lc c a ∧ y 19 = .int .i64 (a : Int) ∧ w = W1)
      (fun _ _ y w => ∃ c' : Bool, SCl y wa wn wc RB la m lc c' a ∧ (c' = true ↔ CanA F Y N r m (a + 1)) ∧ w = W1) := by
  rintro Q y w ⟨⟨s7, s8, s13, s17, s18⟩, s19, rfl⟩ hQ
  have HQ := hid hQ
  have HC0 : Hid (c = true ↔ CanB F Y N r m a a) := by
    unfold Hid
    rw [hc]
    exact ⟨fun h => ⟨h, fun b' h1 h2 => by omega⟩, fun h => h.1⟩
  have HR := hid (fun c b (h1 : a ≤ b) (h2 : b ≤ 40) => dl_room w wa wn wc RB la m lc c a b r h1 h2 hr hG)
  have HN := hid (fun c b ro (h2 : b ≤ 40) => dl_need w wa wn wc RB la m lc c a b ro F Y N hJ hj ha h2)
  have HNl := hid (fun b => need_le F Y N a b m hJ.b)
  have hm9 := hJ.n
  clear hQ hJ hj hr hG hc
  conv => arg 2; whnf
  rw [fr272]
  simp only [s7, s8, s13, s17, s18, s19]
  clear s7 s8 s13 s17 s18 s19
  refine wp_block ?_
  refine wp_loop_fr 272 (BI w wa wn wc RB la m lc a F Y N r) (fun y' _ => 41 - (intOf (y' 19)).toNat) ⟨rfl, rfl, a, c, Nat.le_refl _, by omega, ⟨rfl, rfl, rfl, rfl, rfl⟩, rfl, HC0.out, rfl⟩ ?_
  clear HC0
  rintro z W ⟨b, c2, hab, hb, ⟨s7, s8, s13, s17, s18⟩, s19, hcb, rfl⟩
  have HC := hid hcb
  clear hcb
  rw [fr272]
  simp only [s7, s8, s13, s17, s18, s19]
  clear s7 s8 s13 s17 s18 s19
  by_cases hlt : b ≤ 40
  · have d1 : decide ((b : Int) ≤ 40) = true := decide_eq_true (by omega)
    have d2 : decide (b ≤ 40) = true := decide_eq_true hlt
    go_upto_block 9 with (fail)
    refine wp_block ?_
    refine wp_seq_k (fun K1 hK1 => ?_)
    go_wp2_with fail
    refine hK1.out _ _ ?_
    refine wp_seq_k (fun K2 hK2 => ?_)
    refine wp_seq_k (fun K3 hK3 => ?_)
    go_wp2_with fail
    refine hK3.out _ _ ?_
    refine Tri.use (HR.out c2 b hab hlt) rfl ⟨⟨rfl, rfl, rfl, rfl, rfl⟩, rfl, rfl, rfl, rfl, rfl⟩ ?_
    rintro y5 W5 ⟨⟨s7, s8, s13, s17, s18⟩, s19, s20, hro, s21, rfl⟩
    refine hK2.out _ _ ?_
    rw [fr272]
    simp only [s7, s8, s13, s17, s18, s19, s20, s21]
    clear s7 s8 s13 s17 s18 s19 s20 s21
    have hok : Hid (OkAB F Y N r m a b ↔ needTo F Y N a b m ≤ rm r a b) := Iff.rfl
    have hnl := HNl.out b
    have hneed := hid (HN.out c2 b (rm r a b) hlt)
    have HX : Hid (CanB F Y N r m a (b + 1) ↔ CanB F Y N r m a b ∧ OkAB F Y N r m a b) :=
      ⟨fun h => ⟨⟨h.1, fun b' h1 h2 => h.2 b' h1 (by omega)⟩, h.2 b hab (by omega)⟩, fun h => ⟨h.1.1, fun b' h1 h2 => by
        rcases Nat.lt_or_ge b' b with h3 | h3
        · exact h.1.2 b' h1 h3
        · obtain rfl : b' = b := by omega
          exact h.2⟩⟩
    generalize rm r a b = ro at *
    generalize needTo F Y N a b m = ne at *
    refine wp_seq_k (fun K4 hK4 => ?_)
    refine wp_seq_k (fun K5 hK5 => ?_)
    go_wp2_with fail
    refine hK5.out _ _ ?_
    refine Tri.use hneed.out rfl ⟨⟨rfl, rfl, rfl, rfl, rfl⟩, rfl, rfl, rfl, rfl, rfl⟩ ?_
    rintro y6 W6 ⟨⟨s7, s8, s13, s17, s18⟩, s19, s20, s21, rfl⟩
    refine hK4.out _ _ ?_
    rw [fr272]
    simp only [s7, s8, s13, s17, s18, s19, s20, s21]
    clear s7 s8 s13 s17 s18 s19 s20 s21 hneed
    have H1 : Hid (c2 = true → ne ≤ ro → CanB F Y N r m a (b + 1)) := fun h1 h2 => HX.out.2 ⟨HC.out.1 h1, hok.out.2 h2⟩
    have H2 : Hid (CanB F Y N r m a (b + 1) → c2 = true ∧ ne ≤ ro) := fun h => ⟨HC.out.2 (HX.out.1 h).1, hok.out.1 (HX.out.1 h).2⟩
    clear hok HX HC HNl HR HN
    cases c2 with
    | false =>
      go_wp2_with fail
      refine ⟨rfl, rfl, ⟨b + 1, false, by omega, by omega, ⟨rfl, rfl, rfl, rfl, rfl⟩, ?_, ⟨fun h => (by cases h), fun h => (H2.out h).1⟩, rfl⟩, ?_⟩
      · show Value.int .i64 _ = Value.int .i64 _
        go_num
      · show 41 - (intOf (Value.int .i64 _)).toNat < _
        simp [intOf]
        omega
    | true =>
      by_cases hle : ne ≤ ro
      · have e1 : decide ((ne : Int) ≤ (ro : Int)) = true := decide_eq_true (by omega)
        have e2 : decide (ne ≤ ro) = true := decide_eq_true hle
        have H3 := hid (H1.out rfl hle)
        clear H1 H2
        go_wp2_with fail
        refine ⟨rfl, rfl, ⟨b + 1, true, by omega, by omega, ⟨rfl, rfl, rfl, rfl, rfl⟩, ?_, ⟨fun _ => H3.out, fun _ => rfl⟩, rfl⟩, ?_⟩
        · show Value.int .i64 _ = Value.int .i64 _
          go_num
        · show 41 - (intOf (Value.int .i64 _)).toNat < _
          simp [intOf]
          omega
      · have e1 : decide ((ne : Int) ≤ (ro : Int)) = false := decide_eq_false (by omega)
        have e2 : decide (ne ≤ ro) = false := decide_eq_false hle
        have H3 := hid (fun h => hle (H2.out h).2)
        clear H1 H2
        go_wp2_with fail
        refine ⟨rfl, rfl, ⟨b + 1, false, by omega, by omega, ⟨rfl, rfl, rfl, rfl, rfl⟩, ?_, ⟨fun h => (by cases h), fun h => absurd h H3.out⟩, rfl⟩, ?_⟩
        · show Value.int .i64 _ = Value.int .i64 _
          go_num
        · show 41 - (intOf (Value.int .i64 _)).toNat < _
          simp [intOf]
          omega
  · obtain rfl : b = 41 := by omega
    have HE := hid (show (c2 = true ↔ CanA F Y N r m (a + 1)) from HC.out.trans ⟨fun h a' h1 b' h2 h3 => by
      rcases Nat.lt_or_ge a' a with h4 | h4
      · exact h.1 a' h4 b' h2 h3
      · obtain rfl : a' = a := by omega
        exact h.2 b' h2 (by omega), fun h => ⟨fun a' h1 => h a' (by omega), fun b' h1 h2 => h a (by omega) b' h1 (by omega)⟩⟩)
    clear HC HN HR HNl
    go_wp2_with fail
    exact q_fr (N := 272) HQ.out rfl ⟨c2, ⟨rfl, rfl, rfl, rfl, rfl⟩, HE.out, rfl⟩
def AI (W1 : World) (wa : Option Addr) (wn wc RB : Nat) (la : Option Addr) (m lc : Nat) (F Y N r : Nat → Nat) (y : Nat → Value) (W : World) : Prop :=
  ∃ (a : Nat) (c : Bool), a ≤ 41 ∧ SCl y wa wn wc RB la m lc c a ∧ (c = true ↔ CanA F Y N r m a) ∧ W = W1
set_option maxRecDepth 1000000 in
set_option maxHeartbeats 4000000 in
theorem dl_c (W1 : World) (wa : Option Addr) (wn wc RB : Nat) (la : Option Addr) (m lc : Nat) (F Y N r : Nat → Nat) (hJ : JobOk m F Y N) (hj : JA W1 la m lc F Y N) (hr : ∀ t, r t ≤ 10000) (hG : Gn W1 RB 40 (fun u => (r u : Int))) :
    Tri Try.prog 272 (pieceOf Try.f3 [1, 1, 1, 1, 1, 1, 1, 0, 1]) (fun y w => SCl y wa wn wc RB la m lc true 0 ∧ w = W1)
      (fun _ _ y w => ∃ c : Bool, SCl y wa wn wc RB la m lc c 41 ∧ (c = true ↔ CanA F Y N r m 41) ∧ w = W1) := by
  rintro Q y w ⟨⟨s7, s8, s13, s17, s18⟩, rfl⟩ hQ
  have HQ := hid hQ
  have HB := hid (fun a c (ha : a ≤ 40) hc => dl_bs w wa wn wc RB la m lc a c F Y N r hJ hj hr hG ha hc)
  clear hQ hJ hj hr hG
  conv => arg 2; whnf
  rw [fr272]
  simp only [s7, s8, s13, s17, s18]
  clear s7 s8 s13 s17 s18
  refine wp_block ?_
  refine wp_loop_fr 272 (AI w wa wn wc RB la m lc F Y N r) (fun y' _ => 41 - (intOf (y' 18)).toNat) ⟨rfl, rfl, 0, true, by omega, ⟨rfl, rfl, rfl, rfl, rfl⟩, ⟨fun _ a' h => by omega, fun _ => rfl⟩, rfl⟩ ?_
  rintro z W ⟨a, c, ha, ⟨s7, s8, s13, s17, s18⟩, hc, rfl⟩
  have HC := hid hc
  clear hc
  rw [fr272]
  simp only [s7, s8, s13, s17, s18]
  clear s7 s8 s13 s17 s18
  by_cases hlt : a ≤ 40
  · have d1 : decide ((a : Int) ≤ 40) = true := decide_eq_true (by omega)
    have d2 : decide (a ≤ 40) = true := decide_eq_true hlt
    have hb := hid (HB.out a c hlt HC.out)
    go_upto_block 7 with (fail)
    refine wp_block ?_
    refine wp_seq_k (fun K1 hK1 => ?_)
    go_wp2_with fail
    refine hK1.out _ _ ?_
    refine Tri.use hb.out rfl ⟨⟨rfl, rfl, rfl, rfl, rfl⟩, rfl, rfl⟩ ?_
    rintro y5 W5 ⟨c5, ⟨s7, s8, s13, s17, s18⟩, hc5, rfl⟩
    have HC5 := hid hc5
    clear hc5 hb HC
    rw [fr272]
    simp only [s7, s8, s13, s17, s18]
    clear s7 s8 s13 s17 s18
    go_wp2_with fail
    refine ⟨rfl, rfl, ⟨a + 1, c5, by omega, ⟨rfl, rfl, rfl, rfl, ?_⟩, HC5.out, rfl⟩, ?_⟩
    · show Value.int .i64 _ = Value.int .i64 _
      go_num
    · show 41 - (intOf (Value.int .i64 _)).toNat < _
      simp [intOf]
      omega
  · obtain rfl : a = 41 := by omega
    go_wp2_with fail
    exact q_fr (N := 272) HQ.out rfl ⟨c, ⟨rfl, rfl, rfl, rfl, rfl⟩, HC.out, rfl⟩
end Go.Proofs.Ytfbchmihkndfaaa
/- PassesDue: the law: are all gone in time? The one job. -/
namespace Go.Proofs.Ytfbchmihkndfaaa
set_option linter.unusedVariables false
open Go.RowKit

def one1 : Wins := ⟨1, fun _ => 0, fun _ => 9, fun _ => 2⟩
theorem one1_ok : WinOk one1 := ⟨by decide, fun _ _ => (show 0 ≤ 9 by decide), fun _ _ => (show 9 ≤ 1000 by decide), fun _ _ => (show 2 ≤ 1000 by decide)⟩
theorem one1_job : JobOk 1 (fun _ => 0) (fun _ => 9) (fun _ => 3) := ⟨by decide, fun _ _ => by decide, fun _ _ => by decide, fun _ _ => by decide⟩
theorem one_two {rem : Nat → Nat} {gone : Nat → Int} (h : DInv ⟨1, fun _ => 0, fun _ => 9, fun _ => 3⟩ (one1.rt 1) 20001 rem gone) : gone 0 = 2 := by
  have h1 := h.kt 2 9 (by omega) (fun a ha => by
    have h3 : a = 0 ∨ a = 1 ∨ a = 2 := by omega
    rcases h3 with rfl | rfl | rfl <;> decide) 0 (by decide) (by decide) (by decide)
  have h2 : rem 0 = 0 := by
    rcases Nat.eq_zero_or_pos (rem 0) with h3 | h3
    · exact h3
    · have := h.gl 0 (by decide) h3
      omega
  obtain ⟨g, h3, h4, h5, h6⟩ := h.gd 0 (by decide) (by decide) h2
  have h4 : 0 < g := h4
  have h6 : 3 ≤ rm (one1.rt 1) 0 g := h6
  have h7 : g ≠ 1 := fun e => by
    subst e
    exact absurd h6 (by decide)
  omega
def EnI (W1 : World) (la : Option Addr) (m lc gb : Nat) (Y : Nat → Nat) (gone : Nat → Int) (c : Bool) (y : Nat → Value) (W : World) : Prop :=
  ∃ (i : Nat) (b : Bool), i ≤ m ∧ y 13 = .slice la m lc ∧ y 17 = .bool c ∧ y 26 = .slice (some ⟨gb, 0, none⟩) m m ∧ y 30 = .bool b ∧ y 31 = .int .i64 (i : Int) ∧ (b = true ↔ InT i Y gone) ∧ Below W1.heap.size W1 W
set_option maxRecDepth 1000000 in
set_option maxHeartbeats 4000000 in
theorem dl_d (W1 : World) (la : Option Addr) (m lc gb : Nat) (F Y N : Nat → Nat) (gone : Nat → Int) (c : Bool) (hm9 : m ≤ 9) (hY : ∀ i, i < m → Y i ≤ 1000) (hj : JA W1 la m lc F Y N) (hG : Gn W1 gb m gone) :
    Tri Try.prog 272 (pieceOf Try.f3 [1, 1, 1, 1, 1, 1, 1, 1, 1, 1, 1, 1, 1, 0, 1]) (fun y w => y 13 = .slice la m lc ∧ y 17 = .bool c ∧ y 26 = .slice (some ⟨gb, 0, none⟩) m m ∧ y 30 = .bool true ∧ y 31 = .int .i64 0 ∧ w = W1)
      (fun _ _ y w => ∃ b : Bool, y 17 = .bool c ∧ y 30 = .bool b ∧ (b = true ↔ InT m Y gone) ∧ Below W1.heap.size W1 w) := by
  rintro Q y w ⟨s13, s17, s26, s30, s31, rfl⟩ hQ
  have HQ := hid hQ
  have HJA := hid hj
  have HG := hid hG
  have HY := hid hY
  have hle := hj.le
  have hmx := hj.mx
  unfold maxLen at hmx
  clear hQ hj hG hY
  conv => arg 2; whnf
  rw [fr272]
  simp only [s13, s17, s26, s30, s31]
  clear s13 s17 s26 s30 s31
  refine wp_block ?_
  refine wp_loop_fr 272 (EnI w la m lc gb Y gone c) (fun y' _ => m - (intOf (y' 31)).toNat) ⟨rfl, rfl, 0, true, Nat.zero_le _, rfl, rfl, rfl, rfl, rfl, ⟨fun _ i h => absurd h (Nat.not_lt_zero i), fun _ => rfl⟩, Below.refl _ _⟩ ?_
  rintro z W ⟨i, b, hi, s13, s17, s26, s30, s31, hb, hB⟩
  have HBI := hid hb
  have HB := hid hB
  clear hb
  rw [fr272]
  simp only [s13, s17, s26, s30, s31]
  clear s13 s17 s26 s30 s31
  by_cases hlt : i < m
  · have d1 : decide ((i : Int) < (m : Int)) = true := decide_eq_true (by omega)
    have d2 : decide (i < m) = true := decide_eq_true hlt
    have hjw := HJA.out.below hB
    obtain ⟨jb, rfl, hjb⟩ := hjw.mem (by omega)
    have hd : Below W.heap.size W W.drew := (Below.refl _ W).drew
    have hjl : jb < W.heap.size := by obtain ⟨cs, h1, _⟩ := id hjb; exact row_lt h1
    have hgw := HG.out.below hB
    have e0 : ∀ w', Below W.heap.size W.drew w' → w'.cell? ⟨gb, i, none⟩ = some (.int .i64 (gone i)) := fun w' hw => ((hd.trans hw).cell (p := ⟨gb, i, none⟩) hgw.lt).trans (hgw.cell i hlt).1
    have e1 : ∀ w', Below W.heap.size W.drew w' → w'.cell? ⟨jb, i * 3 + 1, none⟩ = some (.int .i64 (Y i : Int)) := fun w' hw => ((hd.trans hw).cell (p := ⟨jb, i * 3 + 1, none⟩) hjl).trans (hjb.cell i hlt).2.1
    have hYi := HY.out i hlt
    have HBd := hid (show Below w.heap.size w W.drew from hB.drew)
    have H1 : Hid (b = true → 0 ≤ gone i → gone i ≤ (Y i : Int) → InT (i + 1) Y gone) := fun h0 h1 h2 j hj => by
      by_cases e : j = i
      · subst e; exact ⟨h1, h2⟩
      · exact HBI.out.1 h0 j (by omega)
    have H2 : Hid (InT (i + 1) Y gone → b = true ∧ 0 ≤ gone i ∧ gone i ≤ (Y i : Int)) := fun h => ⟨HBI.out.2 (fun j hj => h j (by omega)), h i (by omega)⟩
    clear hjw hjb hd hgw hB HBI
    generalize gone i = gi at *
    generalize Y i = yi at *
    go_upto_block 15 with (fail)
    refine wp_block ?_
    refine wp_region_can_all [] [0, 1, 2, 3, 4, 5, 6, 7, 8, 9, 10, 11, 12, 13, 14, 15, 16, 17, 18, 19, 20] (Below W.heap.size) (fun _ => Below.refl _ _) (fun _ _ _ h k => h.trans k) (by kernel_rfl) (by kernel_rfl) ?_
    simp only [List.map_cons, List.map_nil, List.contains_nil, List.getD_cons_zero, List.getD_cons_succ]
    generalize W.drew = U at *
    cases b with
    | false =>
      have H3 : Hid (InT (i + 1) Y gone → False) := fun h => absurd (H2.out h).1 (by decide)
      clear H1 H2
      iterate 2 (refine wpL_do rfl (fun w' hw' => (by go_simp; rfl)) ?_; simp only [Act.put, List.setIfInBounds_toArray, List.set_cons_succ, List.set_cons_zero])
      iterate 5 ((with_reducible refine wpL_pass ?_ ?_); (· rfl); simp only [Act.put, List.setIfInBounds_toArray, List.set_cons_succ, List.set_cons_zero])
      iterate 2 (refine wpL_do rfl (fun w' hw' => (by go_simp; rfl)) ?_; simp only [Act.put, List.setIfInBounds_toArray, List.set_cons_succ, List.set_cons_zero])
      iterate 10 ((with_reducible refine wpL_pass ?_ ?_); (· rfl); simp only [Act.put, List.setIfInBounds_toArray, List.set_cons_succ, List.set_cons_zero])
      iterate 2 (refine wpL_do rfl (fun w' hw' => (by go_simp; rfl)) ?_; simp only [Act.put, List.setIfInBounds_toArray, List.set_cons_succ, List.set_cons_zero])
      refine wpL_nil ?_
      clear e0 e1
      go_wp2_with fail
      refine ⟨rfl, rfl, ⟨i + 1, false, by omega, rfl, rfl, rfl, rfl, ?_, ⟨fun h => (by cases h), fun h => (H3.out h).elim⟩, HBd.out⟩, ?_⟩
      · show Value.int .i64 _ = Value.int .i64 _
        go_num
      · show m - (intOf (Value.int .i64 _)).toNat < _
        simp [intOf]
        omega
    | true =>
      by_cases h0 : 0 ≤ gi
      · have f1 : decide (0 ≤ gi) = true := decide_eq_true h0
        by_cases h2 : gi ≤ (yi : Int)
        · have f2 : decide (gi ≤ (yi : Int)) = true := decide_eq_true h2
          have H3 := hid (H1.out rfl h0 h2)
          clear H1 H2
          iterate 21 (refine wpL_do rfl (fun w' hw' => (by go_simp; rfl)) ?_; simp only [Act.put, List.setIfInBounds_toArray, List.set_cons_succ, List.set_cons_zero])
          refine wpL_nil ?_
          clear e0 e1
          go_wp2_with fail
          refine ⟨rfl, rfl, ⟨i + 1, true, by omega, rfl, rfl, rfl, rfl, ?_, ⟨fun _ => H3.out, fun _ => rfl⟩, HBd.out⟩, ?_⟩
          · show Value.int .i64 _ = Value.int .i64 _
            go_num
          · show m - (intOf (Value.int .i64 _)).toNat < _
            simp [intOf]
            omega
        · have f2 : decide (gi ≤ (yi : Int)) = false := decide_eq_false h2
          have H3 := hid (fun h => h2 (H2.out h).2.2)
          clear H1 H2
          iterate 21 (refine wpL_do rfl (fun w' hw' => (by go_simp; rfl)) ?_; simp only [Act.put, List.setIfInBounds_toArray, List.set_cons_succ, List.set_cons_zero])
          refine wpL_nil ?_
          clear e0 e1
          go_wp2_with fail
          refine ⟨rfl, rfl, ⟨i + 1, false, by omega, rfl, rfl, rfl, rfl, ?_, ⟨fun h => (by cases h), fun h => (H3.out h).elim⟩, HBd.out⟩, ?_⟩
          · show Value.int .i64 _ = Value.int .i64 _
            go_num
          · show m - (intOf (Value.int .i64 _)).toNat < _
            simp [intOf]
            omega
      · have f1 : decide (0 ≤ gi) = false := decide_eq_false h0
        have H3 := hid (fun h => h0 (H2.out h).2.1)
        clear H1 H2
        iterate 9 (refine wpL_do rfl (fun w' hw' => (by go_simp; rfl)) ?_; simp only [Act.put, List.setIfInBounds_toArray, List.set_cons_succ, List.set_cons_zero])
        iterate 10 ((with_reducible refine wpL_pass ?_ ?_); (· rfl); simp only [Act.put, List.setIfInBounds_toArray, List.set_cons_succ, List.set_cons_zero])
        iterate 2 (refine wpL_do rfl (fun w' hw' => (by go_simp; rfl)) ?_; simp only [Act.put, List.setIfInBounds_toArray, List.set_cons_succ, List.set_cons_zero])
        refine wpL_nil ?_
        clear e0 e1
        go_wp2_with fail
        refine ⟨rfl, rfl, ⟨i + 1, false, by omega, rfl, rfl, rfl, rfl, ?_, ⟨fun h => (by cases h), fun h => (H3.out h).elim⟩, HBd.out⟩, ?_⟩
        · show Value.int .i64 _ = Value.int .i64 _
          go_num
        · show m - (intOf (Value.int .i64 _)).toNat < _
          simp [intOf]
          omega
  · obtain rfl : i = m := by omega
    have d1 : decide ((i : Int) < (i : Int)) = false := decide_eq_false (by omega)
    clear hB
    go_wp2_with fail
    exact q_fr (N := 272) HQ.out rfl ⟨b, rfl, rfl, HBI.out, HB.out⟩
end Go.Proofs.Ytfbchmihkndfaaa
/- PassesDue: the law, joined. -/
namespace Go.Proofs.Ytfbchmihkndfaaa
set_option linter.unusedVariables false
open Go.RowKit

theorem wat_of {W : World} {B n wc : Nat} {wa : Option Addr} {ts : Nat → Int × Int} (h : W.ownsRow B 29 3 (.slice wa n wc) n (jcs (frD ts) (ttD ts) (raD ts) n)) : WAt W wa wc (winD ts n) := by
  obtain ⟨h1, h2, h3⟩ := own_three h
  refine ⟨h1, h2, fun hn => ?_⟩
  obtain ⟨b, rfl, hb, cs, hr, hc⟩ := h3 hn
  exact ⟨b, rfl, hb, fun i hi => ⟨by rw [cell_of_row _ _ _ _ _ _ hr]; exact (hc i hi).1, by rw [cell_of_row _ _ _ _ _ _ hr]; exact (hc i hi).2.1, by rw [cell_of_row _ _ _ _ _ _ hr]; exact (hc i hi).2.2⟩⟩
theorem ja_of {W : World} {B m lc : Nat} {la : Option Addr} {F Y N : Nat → Nat} (h : W.ownsRow B 32 3 (.slice la m lc) m (jcs F Y N m)) (h0 : m = 0 → la = none ∧ lc = 0) : JA W la m lc F Y N := by
  obtain ⟨h1, h2, h3⟩ := own_three h
  refine ⟨h1, h2, h0, fun hn => ?_⟩
  obtain ⟨b, rfl, hb, cs, hr, hc⟩ := h3 hn
  exact ⟨b, rfl, cs, hr, hc⟩
theorem due_iff {F Y N r : Nat → Nat} {m : Nat} {rem : Nat → Nat} {gone : Nat → Int} (h : DInv ⟨m, F, Y, N⟩ r 20001 rem gone) (hY : ∀ i, i < m → F i ≤ Y i ∧ Y i ≤ 40) : InT m Y gone ↔ CanA F Y N r m 41 := by
  have h1 := h.due (by omega) hY
  refine (show InT m Y gone ↔ _ from h1).trans ⟨fun h2 a _ b h3 h4 => h2 a b h3 h4, fun h2 a b h3 h4 => h2 a (by omega) b h3 h4⟩
theorem bool_of_iff {a b : Bool} {P : Prop} (h1 : a = true ↔ P) (h2 : b = true ↔ P) : a = b := by
  cases a <;> cases b <;> simp_all
theorem run_mk40 (u : World) : (Instr.makeSlice 23 (.int .i64 40) (.int .i64 40)).run Try.prog u =
    .ok (.slice (some ⟨u.heap.size, 0, none⟩) 40 40) (u.alloc (.cells (madeCells #[.int .i64 0] (40 * 1)) 3)) := by
  obtain ⟨i0, hi, hz0, hz1, hz2⟩ := info_parts Try.info3
  have h := run_make (P := Try.prog) u 23 3 i0 (.int .i64 0) Try.underlying23 hi hz0 .i64 .i64 40 40 (by omega) (Int.le_refl _) (by rw [hz2]; omega) (by omega)
  simpa [hz1, Value.cells] using h
theorem one_wat (U : World) : WAt (U.alloc (.cells #[.int .i64 0, .int .i64 9, .int .i64 2] 29)) (some ⟨U.heap.size, 0, none⟩) 1 one1 := by
  have r := heap_alloc_new U (.cells #[.int .i64 0, .int .i64 9, .int .i64 2] 29)
  refine ⟨Nat.le_refl _, by unfold maxLen; omega, fun _ => ⟨_, rfl, row_lt r, fun j hj => ?_⟩⟩
  obtain rfl : j = 0 := by have : j < 1 := hj; omega
  refine ⟨?_, ?_, ?_⟩ <;> (rw [cell_of_row _ _ _ _ _ _ r]; rfl)
theorem one_ja (U : World) : JA (U.alloc (.cells #[.int .i64 0, .int .i64 9, .int .i64 3] 32)) (some ⟨U.heap.size, 0, none⟩) 1 1 (fun _ => 0) (fun _ => 9) (fun _ => 3) := by
  have r := heap_alloc_new U (.cells #[.int .i64 0, .int .i64 9, .int .i64 3] 32)
  refine ⟨Nat.le_refl _, by unfold maxLen; omega, fun h => by omega, fun _ => ⟨_, rfl, _, r, fun j hj => ?_⟩⟩
  obtain rfl : j = 0 := by omega
  exact ⟨rfl, rfl, rfl⟩
set_option maxRecDepth 1000000 in
set_option maxHeartbeats 8000000 in
theorem due_ok (ra : Option Addr) (rn rc : Nat) (ts : Nat → Int × Int) (ja : Option Addr) (jn jc : Nat) (js : Nat → Int × Int) (za : Option Addr) (ln zc : Nat) (zs : List Int) (w0 : World) (hR : RawAt w0 ra rn rc ts) (hJ : RawAt w0 ja jn jc js) (hz : Rd w0 za ln zc (vz zs)) (hzb : ∀ z ∈ zs, I64 z) :
    Calls Try.prog 3 #[.slice ra rn rc, .slice ja jn jc, .slice za ln zc] w0 fun e w' => e = .returned (.bool true) ∧ Below w0.heap.size w0 w' := by
  have hmk := run_mk40 w0
  have b1 := below_alloc w0 (.cells (madeCells #[.int .i64 0] (40 * 1)) 3)
  have g1 := Gn.start w0 40
  have hs1 : (w0.alloc (.cells (madeCells #[.int .i64 0] (40 * 1)) 3)).heap.size = w0.heap.size + 1 := World.size_alloc _ _
  generalize madeCells #[.int .i64 0] (40 * 1) = MB at *
  have HA := hid (dl_a w0 (w0.alloc (.cells MB 3)) (w0.heap.size + 1) ra rn rc ts ja jn jc za ln zc w0.heap.size hR b1 (by omega) (Nat.le_refl _) (Nat.lt_succ_self _) g1)
  have HBp := hid (fun W1 wa wn wc (hb : Below w0.heap.size w0 W1) => dl_b w0 W1 W1.heap.size ja jn jc js za ln zc wa wn wc w0.heap.size zs hJ hz hzb hb (Nat.le_refl _) hb.size)
  obtain ⟨n, hn⟩ : ∃ n, n = min rn 6 := ⟨_, rfl⟩
  obtain ⟨m, hm⟩ : ∃ m, m = min jn 6 := ⟨_, rfl⟩
  rw [← hn] at HA
  rw [← hm] at HBp
  have hn6 : n ≤ 6 := by omega
  have hm6 : m ≤ 6 := by omega
  obtain ⟨RB, hRB⟩ : ∃ RB, RB = w0.heap.size := ⟨_, rfl⟩
  rw [← hRB] at HA HBp
  have HRB := hid hRB
  clear hR hJ hz hzb hn hm g1 b1 hs1 hRB
  go_enter Try.func3, Try.ntmps3
  refine wp_seq_k (fun K0 hK0 => ?_)
  go_wp2_with fail
  refine hK0.out _ _ ?_
  refine wp_seq_k (fun K1 hK1 => ?_)
  go_wp2_with fail
  refine hK1.out _ _ ?_
  refine wp_seq_k (fun K2 hK2 => ?_)
  go_wp2_with fail
  rw [← HRB.out]
  refine hK2.out _ _ ?_
  generalize w0.alloc (.cells MB 3) = W1 at *
  clear hmk
  refine wp_seq_k (fun K3 hK3 => ?_)
  refine wp_seq_k (fun K4 hK4 => ?_)
  go_wp2_with fail
  refine hK4.out _ _ ?_
  refine Tri.use HA.out rfl ⟨⟨rfl, rfl, rfl, rfl, rfl, rfl⟩, rfl⟩ ?_
  rintro y2 W2 ⟨wa, wc, hw0, ⟨s0, s1, s2, s7, s8, s9⟩, ho2, hg2, hb2, hB2⟩
  refine hK3.out _ _ ?_
  have HO2 := hid ho2
  have HG2 := hid hg2
  have HB2 := hid hb2
  have hdb := hid (HBp.out W2 wa n wc hb2)
  clear ho2 hg2 hb2 hB2 HA HBp hw0
  rw [fr272]
  simp only [s0, s1, s2, s7, s8, s9]
  clear s0 s1 s2 s7 s8 s9
  refine wp_seq_k (fun K5 hK5 => ?_)
  go_wp2_with fail
  refine hK5.out _ _ ?_
  refine wp_seq_k (fun K6 hK6 => ?_)
  refine wp_seq_k (fun K7 hK7 => ?_)
  go_wp2_with fail
  refine hK7.out _ _ ?_
  refine Tri.use hdb.out rfl ⟨⟨rfl, rfl, rfl, rfl, rfl, rfl⟩, rfl⟩ ?_
  rintro y3 W3 ⟨la, lc, hl0, ⟨s1, s2, s7, s8, s13, s14⟩, ho3, hb3⟩
  refine hK6.out _ _ ?_
  have HWt := hid (wat_of (ownsRow_below HO2.out hb3))
  have HJA := hid (ja_of ho3 hl0)
  have HG3 := hid (HG2.out.below hb3)
  have HB3 := hid (HB2.out.trans (hb3.mono (by rw [HRB.out]; exact HB2.out.size)))
  have hwin := winD_ok ts n hn6
  have hr : ∀ t, (winD ts n).rt n t ≤ 10000 := fun t => by
    have h1 := (winD ts n).rt_bd hwin.ra n (Nat.le_refl _) t
    omega
  have hjob := jobD_ok js zs ln m hm6
  have HC := hid (dl_c W3 wa n wc RB la m lc (frD js) (ttD js) (nzD zs ln) ((winD ts n).rt n) hjob HJA.out hr HG3.out)
  have HFit := hid (Fits_ok wa la wc m lc (winD ts n) _ _ _ W3 hwin HWt.out hjob HJA.out)
  have HSh := hid (fun W (h : Below W3.heap.size W3 W) => Share_ok wa la wc m lc (winD ts n) _ _ _ W hwin (HWt.out.below' h) hjob (HJA.out.below h))
  have HY : Hid (∀ i, i < m → frD js i ≤ ttD js i ∧ ttD js i ≤ 40) := fun i _ => ⟨(ttD_lt js i).1, by have := (ttD_lt js i).2; omega⟩
  have hlle := HJA.out.le
  have hlmx := HJA.out.mx
  unfold maxLen at hlmx
  clear ho3 hb3 hl0 hdb HO2 HG2 HB2 HWt HG3 hr hwin hjob
  have hvn : (winD ts n).n = n := rfl
  rw [hvn] at HFit HSh
  clear hvn
  generalize (winD ts n).rt n = r at *
  generalize frD js = F at *
  generalize ttD js = Y at *
  generalize nzD zs ln = N at *
  rw [fr272]
  simp only [s1, s2, s7, s8, s13, s14]
  clear s1 s2 s7 s8 s13 s14
  refine wp_seq_k (fun K8 hK8 => ?_)
  go_wp2_with fail
  refine hK8.out _ _ ?_
  refine wp_seq_k (fun K9 hK9 => ?_)
  refine wp_seq_k (fun K10 hK10 => ?_)
  go_wp2_with fail
  refine hK10.out _ _ ?_
  refine Tri.use HC.out rfl ⟨⟨rfl, rfl, rfl, rfl, rfl⟩, rfl⟩ ?_
  rintro y4 W4 ⟨c, ⟨s7, s8, s13, s17, s18⟩, hc, rfl⟩
  refine hK9.out _ _ ?_
  have HCa := hid hc
  clear hc HC
  rw [fr272]
  simp only [s7, s8, s13, s17, s18]
  clear s7 s8 s13 s17 s18
  refine wp_seq_k (fun K11 hK11 => ?_)
  go_wp2_with fail
  refine HFit.out.mono ?_
  rintro e W5 ⟨⟨b, rem, gone, rfl, hd5, hb5⟩, hbl5⟩
  have hbc : b = c := bool_of_iff hb5 (HCa.out.trans (due_iff hd5 HY.out).symm)
  subst hbc
  have HB5 := hid hbl5
  clear hd5 hb5 hbl5 HFit
  go_wp2_with fail
  refine hK11.out _ _ ?_
  refine wp_seq_k (fun K12 hK12 => ?_)
  go_wp2_with fail
  refine (HSh.out W5 HB5.out).mono ?_
  rintro e W6 ⟨⟨gb, rem6, gone6, rfl, hgb6, hg6, hd6⟩, hbl6⟩
  have HG6 := hid hg6
  have HDu := hid (HCa.out.trans (due_iff hd6 HY.out).symm)
  have HB6 := hid (HB5.out.trans (hbl6.mono HB5.out.size))
  clear hg6 hd6 hbl6 HSh HCa
  go_wp2_with fail
  refine hK12.out _ _ ?_
  have b7 := below_alloc W6 (.cells #[.int .i64 0, .int .i64 9, .int .i64 2] 29)
  have b8 := below_alloc (W6.alloc (.cells #[.int .i64 0, .int .i64 9, .int .i64 2] 29)) (.cells #[.int .i64 0, .int .i64 9, .int .i64 3] 32)
  have hj8 := one_ja (W6.alloc (.cells #[.int .i64 0, .int .i64 9, .int .i64 2] 29))
  rw [World.size_alloc] at hj8
  have hsh : Calls Try.prog 7 #[.slice (some ⟨W6.heap.size, 0, none⟩) 1 1, .slice (some ⟨W6.heap.size + 1, 0, none⟩) 1 1] ((W6.alloc (.cells #[.int .i64 0, .int .i64 9, .int .i64 2] 29)).alloc (.cells #[.int .i64 0, .int .i64 9, .int .i64 3] 32)) _ := Share_ok (some ⟨W6.heap.size, 0, none⟩) (some ⟨W6.heap.size + 1, 0, none⟩) 1 1 1 one1 (fun _ => 0) (fun _ => 9) (fun _ => 3) _ one1_ok ((one_wat W6).below' b8) one1_job hj8
  have HB8 := hid ((HB6.out.trans (b7.mono HB6.out.size)).trans (b8.mono (Nat.le_trans HB6.out.size b7.size)))
  have G8 := hid ((HG6.out.below b7).below b8)
  clear b7 b8 hj8
  refine wp_seq_k (fun K13 hK13 => ?_)
  go_wp2_with fail
  refine hsh.mono ?_
  rintro e W9 ⟨⟨gb1, rem1, gone1, rfl, hgb1, hg9, hd9⟩, hbl9⟩
  have hg0 : gone1 0 = 2 := one_two hd9
  have c9 := (hg9.cell 0 (by decide)).1
  rw [hg0] at c9
  have HB9 := hid (HB8.out.trans (hbl9.mono HB8.out.size))
  have G9 := hid (G8.out.below hbl9)
  have hend := hid (dl_d W9 la m lc gb F Y N gone6 b (by omega) (fun i hi => by have := HY.out i hi; omega) (HJA.out.below HB9.out) G9.out)
  clear hsh hg9 hd9 hbl9 hg0 G8 HB8
  go_wp2_with fail
  refine hK13.out _ _ ?_
  refine wp_seq_k (fun K14 hK14 => ?_)
  go_wp2_with fail
  refine hK14.out _ _ ?_
  clear c9
  refine wp_seq_k (fun K15 hK15 => ?_)
  go_wp2_with fail
  refine hK15.out _ _ ?_
  refine wp_seq_k (fun K16 hK16 => ?_)
  refine wp_seq_k (fun K17 hK17 => ?_)
  go_wp2_with fail
  refine hK17.out _ _ ?_
  refine Tri.use hend.out rfl ⟨rfl, rfl, rfl, rfl, rfl, rfl⟩ ?_
  rintro yE WE ⟨bE, s17, s30, hbE, hblE⟩
  refine hK16.out _ _ ?_
  have hbb : bE = b := bool_of_iff hbE HDu.out
  subst hbb
  have HBE := hid (HB3.out.trans ((HB9.out.trans (hblE.mono HB9.out.size)).mono (by rw [HRB.out]; exact HB3.out.size)))
  clear hbE hblE hend
  rw [fr272]
  simp only [s17, s30]
  clear s17 s30
  cases bE <;>
  · go_wp2_with fail
    go_ret
    exact ⟨rfl, by rw [← HRB.out]; exact HBE.out⟩
end Go.Proofs.Ytfbchmihkndfaaa
