/- FrameCarries: the law. -/
import Derived.Test.YtjiipmalahhcpaaCarries31
import Derived.Test.YtjiipmalahhcpaaCarries2
import Derived.ChangeSlices
import Derived.ChangeArms
import Derived.Deep.Slices
import Derived.Deep.Strs
import Derived.ProofKit
import Derived.ChangeOld
import Derived.Below
namespace Go.Proofs.Ytjiipmalahhcpaa
set_option linter.unusedVariables false
open Go.RowKit

def s0 : ST := ⟨fun _ => lq0, fun _ => [], fun _ => 0, fun _ => 0, fun _ => le0, fun _ => le0, -1, -1, 0, 0, [], [], [], [], 0, 0⟩
theorem ci0 (room jn : Nat) : CI room jn 0 s0 := by
  refine ⟨fun c hc => ⟨rfl, (fun p hp => by cases hp), lq0_ok, (restB_nil 0).symm, .inl rfl, fun _ => rfl, (fun h => absurd (show 0 < 0 from h) (Nat.lt_irrefl 0)), (fun h => absurd (show 0 < 0 from h) (Nat.lt_irrefl 0)), .inl rfl, fun _ => .inr rfl, Nat.zero_le _, le0_ok, le0_ok⟩, fun c hc => Nat.zero_le _, fun c hc => rfl, (fun x hx => by cases hx), List.Pairwise.nil, (fun x hx => by cases hx), rfl, Nat.zero_le _, ⟨Nat.zero_le _, Nat.zero_le _⟩, Nat.zero_le _, Nat.zero_le _, .inl rfl, .inl ⟨rfl, (fun x hx => by cases hx)⟩, Nat.zero_le _, by decide, by decide⟩
set_option maxRecDepth 1000000 in
set_option maxHeartbeats 16000000 in
theorem carries_ok (sz : Int) (ja : Option Addr) (jn jc : Nat) (f : Nat → Job) (W0 : World) (hs : InI sz) (hJ : RdJ W0 ja jn jc f) :
    Calls Try.prog 4 #[.int .i64 sz, .slice ja jn jc] W0 fun e w' => e = .returned (.bool true) ∧ Below W0.heap.size W0 w' := by
  have hmx := Nat.le_trans hJ.le hJ.max
  unfold maxLen at hmx
  have HJ := hid hJ
  clear hJ
  by_cases hj : jn ≤ 200
  · have d1 : decide ((200 : Int) < (jn : Int)) = false := decide_eq_false (by omega)
    have d2 : decide (200 < jn) = false := decide_eq_false (by omega)
    have hp := pick_st sz 60 W0 hs.1 hs.2 (by decide) (by decide)
    rw [show (60 : Int).toNat = 60 from rfl] at hp
    have h60 := pk_lt sz 60 (by decide)
    generalize pk sz 60 = r at *
    obtain ⟨n, hn⟩ : ∃ n, n = 13 + r := ⟨_, rfl⟩
    have a1 : (13 : Int) + (r : Int) = (n : Int) := by omega
    have a2 : IntKind.i64.wrap (n : Int) = (n : Int) := IntWalk.i64_in _ (by omega)
    have a3 : IntKind.i64.wrap ((13 : Int) + (r : Int)) = (n : Int) := by rw [a1]; exact a2
    have hn1 : 13 ≤ n ∧ n ≤ 2048 := by omega
    clear hn h60
    have hop := open_ok 77 n W0 (by decide) hn1.1 hn1.2
    rw [show ((77 : Nat) : Int) = 77 from rfl] at hop
    go_enter Try.func4, Try.ntmps4
    refine wp_seq_k (fun K0 hK0 => ?_)
    go_wp2_with fail
    refine hK0.out _ _ ?_
    refine wp_seq_k (fun K1 hK1 => ?_)
    go_wp2_with fail
    refine hK1.out _ _ ?_
    clear d1 d2
    refine wp_seq_k (fun K2 hK2 => ?_)
    go_wp2_with fail
    refine hp.mono ?_
    rintro e w' ⟨rfl, hw'⟩
    rw [hw']
    clear hw' w' hp
    go_wp2_with fail
    refine hK2.out _ _ ?_
    clear a1 a2 a3
    refine wp_seq_k (fun K3 hK3 => ?_)
    go_wp2_with fail
    refine hop.mono ?_
    rintro e W1 ⟨⟨qb, qc, rfl, hsl⟩, hb1⟩
    unfold sv
    rw [show ((77 : Nat) : Int) = 77 from rfl, show ((0 : Nat) : Int) = 0 from rfl]
    go_wp2_with fail
    refine hK3.out _ _ ?_
    have r2 := heap_alloc_new W1 (.cells #[.int .i64 77, .int .i64 (n : Int), .int .i64 0, .int .i64 0, .slice (some ⟨qb, 0, none⟩) 7 qc] 26)
    have b2 := below_alloc W1 (.cells #[.int .i64 77, .int .i64 (n : Int), .int .i64 0, .int .i64 0, .slice (some ⟨qb, 0, none⟩) 7 qc] 26)
    have HS2 := hid (hsl.below b2)
    have HB2 := hid (hb1.trans (b2.mono hb1.size))
    have hS := hb1.size
    obtain ⟨S, hS'⟩ : ∃ S, S = W1.heap.size := ⟨_, rfl⟩
    rw [← hS'] at r2 hS ⊢
    have R2 := hid r2
    clear hS' b2 hsl hb1 hop r2
    generalize W1.alloc (.cells #[.int .i64 77, .int .i64 (n : Int), .int .i64 0, .int .i64 0, .slice (some ⟨qb, 0, none⟩) 7 qc] 26) = W2 at *
    have hli := listen_ok 77 n W2 (by decide) hn1.1 hn1.2
    rw [show ((77 : Nat) : Int) = 77 from rfl] at hli
    refine wp_seq_k (fun K4 hK4 => ?_)
    go_wp2_with fail
    refine hli.mono ?_
    rintro e W3 ⟨⟨eb, ec, rfl, hle⟩, hb3⟩
    unfold lv
    rw [show ((77 : Nat) : Int) = 77 from rfl]
    go_wp2_with fail
    refine hK4.out _ _ ?_
    have r4 := heap_alloc_new W3 (.cells #[.int .i64 77, .int .i64 (n : Int), .int .i64 (-1), .slice (some ⟨eb, 0, none⟩) 7 ec] 52)
    have b4 := below_alloc W3 (.cells #[.int .i64 77, .int .i64 (n : Int), .int .i64 (-1), .slice (some ⟨eb, 0, none⟩) 7 ec] 52)
    have R4 := hid (row_below (row_below R2.out hb3) b4)
    have HS4 := hid ((HS2.out.below hb3).below b4)
    have HL4 := hid (hle.below b4)
    have HB3 := HB2.out.trans (hb3.mono HB2.out.size)
    have HB4 := hid (HB3.trans (b4.mono HB3.size))
    have hX := HB3.size
    obtain ⟨X, hX'⟩ : ∃ X, X = W3.heap.size := ⟨_, rfl⟩
    rw [← hX'] at r4 hX ⊢
    have RX4 := hid r4
    clear hX' b4 hle hb3 hli r4 HB3 R2 HS2 HB2
    generalize W3.alloc (.cells #[.int .i64 77, .int .i64 (n : Int), .int .i64 (-1), .slice (some ⟨eb, 0, none⟩) 7 ec] 52) = W4 at *
    have hli := listen_ok 77 n W4 (by decide) hn1.1 hn1.2
    rw [show ((77 : Nat) : Int) = 77 from rfl] at hli
    refine wp_seq_k (fun K5 hK5 => ?_)
    go_wp2_with fail
    refine hli.mono ?_
    rintro e W5 ⟨⟨fb, fc, rfl, hle⟩, hb5⟩
    unfold lv
    rw [show ((77 : Nat) : Int) = 77 from rfl]
    go_wp2_with fail
    refine hK5.out _ _ ?_
    have r6 := heap_alloc_new W5 (.cells #[.int .i64 77, .int .i64 (n : Int), .int .i64 (-1), .slice (some ⟨fb, 0, none⟩) 7 fc] 52)
    have b6 := below_alloc W5 (.cells #[.int .i64 77, .int .i64 (n : Int), .int .i64 (-1), .slice (some ⟨fb, 0, none⟩) 7 fc] 52)
    have hXY : X < W5.heap.size := row_lt (row_below RX4.out hb5)
    have HB5 := HB4.out.trans (hb5.mono HB4.out.size)
    have HB6 := hid (HB5.trans (b6.mono HB5.size))
    have hY := HB5.size
    have HM6 : Hid (CM (W5.alloc (.cells #[.int .i64 77, .int .i64 (n : Int), .int .i64 (-1), .slice (some ⟨fb, 0, none⟩) 7 fc] 52)) W0.heap.size S X W5.heap.size n s0 ⟨qb, qc, eb, ec, fb, fc, none, 0, none, 0, none, 0, none, 0, none, 0, [], [], []⟩) :=
      ⟨row_below (row_below R4.out hb5) b6, (HS4.out.below hb5).below b6, row_below (row_below RX4.out hb5) b6, (HL4.out.below hb5).below b6, r6, hle.below b6, by omega, RL.nil _ _ _ _ _ _, RL.nil _ _ _ _ _ _, RL.nil _ _ _ _ _ _, (fun k hk => by cases hk), World.ownsRow_nil _ _ _ _, World.ownsRow_nil _ _ _ _⟩
    obtain ⟨Y, hY'⟩ : ∃ Y, Y = W5.heap.size := ⟨_, rfl⟩
    rw [← hY'] at hY HM6 ⊢
    clear hY' b6 hle hb5 hli r6 HB5 R4 HS4 HL4 RX4 HB4 hXY
    generalize W5.alloc (.cells #[.int .i64 77, .int .i64 (n : Int), .int .i64 (-1), .slice (some ⟨fb, 0, none⟩) 7 fc] 52) = W6 at *
    refine wp_seq_k (fun K6 hK6 => ?_)
    go_wp2_with fail
    refine hK6.out _ _ ?_
    refine wp_seq_k (fun K7 hK7 => ?_)
    go_wp2_with fail
    refine hK7.out _ _ ?_
    refine wp_seq_k (fun K8 hK8 => ?_)
    go_wp2_with fail
    refine hK8.out _ _ ?_
    refine wp_seq_k (fun K9 hK9 => ?_)
    go_wp2_with fail
    refine hK9.out _ _ ?_
    refine wp_seq_k (fun K10 hK10 => ?_)
    go_wp2_with fail
    refine hK10.out _ _ ?_
    refine wp_seq_k (fun K11 hK11 => ?_)
    go_wp2_with fail
    refine hK11.out _ _ ?_
    refine wp_seq_k (fun K12 hK12 => ?_)
    refine Tri.use (car_jobs W0 ja jn jc n S X Y f s0 ⟨qb, qc, eb, ec, fb, fc, none, 0, none, 0, none, 0, none, 0, none, 0, [], [], []⟩ HJ.out hj hn1.1 hn1.2 hS hX hY (ci0 _ _) ⟨rfl, rfl, rfl⟩ (fun x hx => by cases hx) 0) rfl ⟨fun j => ⟨rfl, rfl, rfl, rfl, rfl, rfl, rfl, rfl, rfl, rfl, rfl, rfl⟩, HM6.out, HB6.out⟩ ?_
    rintro y7 W7 ⟨⟨s, m, ⟨s1, s5, s6, s8, s10, s12, s13, s14, s15, s16, s17, s18⟩, hM7, hR7, hC7, hP7⟩, hb7⟩
    refine hK12.out _ _ ?_
    have HM7 := hid hM7
    have HR7 := hid hR7
    have HC7 := hid hC7
    have HP7 := hid hP7
    have HB7 := hid hb7
    clear hM7 hR7 hC7 hP7 hb7 HM6 HB6
    have hmk := run_mkI7 W7
    have b8 := below_alloc W7 (.cells (madeCells #[.int .i64 0] (7 * 1)) 3)
    have HI8 := hid (madeI7 W7)
    have HB8 := hid b8
    obtain ⟨ab, hab'⟩ : ∃ ab, ab = W7.heap.size := ⟨_, rfl⟩
    have Hab := hid (show W7.heap.size ≤ ab by omega)
    rw [← hab'] at hmk HI8
    clear hab' b8
    simp only [Nat.mul_one] at hmk HI8 HB8
    generalize madeCells #[.int .i64 0] 7 = MB at *
    generalize W7.alloc (.cells MB 3) = W8 at *
    rw [fr486]
    simp only [s1, s5, s6, s8, s10, s12, s13, s14, s15, s16, s17, s18]
    clear s1 s5 s6 s8 s10 s12 s13 s14 s15 s16 s17 s18
    refine wp_seq_k (fun K13 hK13 => ?_)
    go_wp2_with fail
    refine hK13.out _ _ ?_
    clear hmk
    refine wp_seq_k (fun K14 hK14 => ?_)
    refine Tri.use (car_o W7 W0.heap.size ja jn jc n S X Y (jn + 40) s m ab (n - 12) (jn + 40) HM7.out HR7.out HC7.out Hab.out hj) rfl ⟨⟨rfl, rfl, rfl, rfl, rfl, rfl, rfl, rfl, rfl, rfl, rfl, rfl⟩, rfl, HI8.out, HB8.out⟩ ?_
    rintro y9 W9 ⟨⟨s1, s5, s6, s8, s10, s12, s13, s14, s15, s16, s17, s18⟩, hb9⟩
    refine hK14.out _ _ ?_
    have HB9 := hid hb9
    clear hb9 HI8 HB8
    rw [fr486]
    simp only [s1, s5, s6, s8, s10, s12, s13, s14, s15, s16, s17, s18]
    clear s1 s5 s6 s8 s10 s12 s13 s14 s15 s16 s17 s18
    refine wp_seq_k (fun K15 hK15 => ?_)
    go_wp2_with fail
    refine hK15.out _ _ ?_
    refine wp_seq_k (fun K16 hK16 => ?_)
    refine Tri.use (car_q W0.heap.size ja jn jc n S X Y (jn + 40) s m) rfl ⟨⟨rfl, rfl, rfl, rfl, rfl, rfl, rfl, rfl, rfl, rfl, rfl, rfl⟩, rfl, HM7.out.below HB9.out⟩ ?_
    rintro y10 W10 ⟨hS10, ⟨b, s38, hbq⟩, rfl⟩
    refine hK16.out _ _ ?_
    have hlen : b = true → m.A.length = m.P.length := fun h => by
      have h1 := quiet_len HC7.out (hbq h)
      have h2 := congrArg List.length HR7.out.a
      have h3 := congrArg List.length HR7.out.p
      rw [List.length_map, List.length_map] at h2
      rw [List.length_map] at h3
      omega
    refine wp_seq_k (fun K17 hK17 => ?_)
    refine car_72 ja jn jc n S X Y (jn + 40) s m b hlen _ y10 W10 ⟨hS10, s38⟩ ?_
    rintro y11 W11 ⟨⟨s1, s5, s6, s8, s10, s12, s13, s14, s15, s16, s17, s18⟩, rfl⟩
    refine hK17.out _ _ ?_
    clear hlen hbq hS10 s38
    rw [fr486]
    simp only [s1, s5, s6, s8, s10, s12, s13, s14, s15, s16, s17, s18]
    clear s1 s5 s6 s8 s10 s12 s13 s14 s15 s16 s17 s18
    refine wp_seq_k (fun K18 hK18 => ?_)
    go_wp2_with fail
    refine hK18.out _ _ ?_
    refine wp_seq_k (fun K19 hK19 => ?_)
    refine Tri.use (car_la W7 W0.heap.size ja jn jc n S X Y (jn + 40) s m (n - 12) (jn + 40) HM7.out HR7.out HC7.out HP7.out (by omega) (by omega) (by omega) hj (by omega)) rfl ⟨⟨rfl, rfl, rfl, rfl, rfl, rfl, rfl, rfl, rfl, rfl, rfl, rfl⟩, rfl, HB9.out⟩ ?_
    rintro y12 W12 ⟨⟨s1, s5, s6, s8, s10, s12, s13, s14, s15, s16, s17, s18⟩, s40, hb12⟩
    refine hK19.out _ _ ?_
    have HB12 := hid (HB7.out.trans (hb12.mono HB7.out.size))
    clear hb12 HB9 HM7 HR7 HC7 HP7
    generalize m.B.length = bl at *
    rw [fr486]
    simp only [s1, s5, s6, s8, s10, s12, s13, s14, s15, s16, s17, s18, s40]
    clear s1 s5 s6 s8 s10 s12 s13 s14 s15 s16 s17 s18 s40
    go_wp2_with fail
    go_ret
    exact ⟨rfl, HB12.out⟩
  · have d1 : decide ((200 : Int) < (jn : Int)) = true := decide_eq_true (by omega)
    have d2 : decide (200 < jn) = true := decide_eq_true (by omega)
    go_enter Try.func4, Try.ntmps4
    go_wp2_with fail
    go_ret
    exact ⟨rfl, Below.refl _ _⟩
end Go.Proofs.Ytjiipmalahhcpaa
/- What the frame hands over, opened: slices of bytes, of ints, of pairs of ints. -/
namespace Go.Proofs.Ytjiipmalahhcpaa
open Go.ChangeShapes Go.WideShapes Go.ChangeAt Go.RowKit
set_option linter.unusedVariables false

theorem spot_of_cell {w : World} {x : Addr} {v : Value} (h : w.cell? (x.add 0) = some v) : ∃ b off, x = ⟨b, off, none⟩ ∧ b < w.heap.size := by
  have hspot := World.cell?_spot h
  obtain ⟨b, off, spot⟩ := x
  have hsp : spot = none := by
    cases spot with
    | none => rfl
    | some s => simp [Addr.add] at hspot
  subst hsp
  refine ⟨b, off, rfl, ?_⟩
  rw [Addr.add_lit] at h
  exact World.block_lt_of_cell? w _ h

/-- a slice of ints of a kind, that the frame opened -/
theorem opened_ints {H : Type} {P : Program} {enc : TypeId × Value → H} {w : World} {t e : TypeId} {k : IntKind} {d : DataW H} {p : List MemPlace} {a : Option Addr} {len cap : Nat}
    (ht : P.underlying t = some (.slice e)) (he : P.underlying e = some (.int k)) (hc : P.cellsOf e = 1) (h : DataW.Trod enc P w 0 (fun _ => true) true t (.slice a len cap) d p) :
    ∃ zs : List Int, ((a = none ∧ len = 0 ∧ cap = 0 ∧ zs = []) ∨ ∃ x, a = some x ∧ len ≤ cap ∧ cap ≤ maxLen ∧ zs.length = cap ∧ (∀ i, i < zs.length → w.cell? (x.add i) = some (.int k (zs.getD i 0))) ∧ ∀ n ∈ zs, (Lit.int k n).wf = true) ∧
      (len = 0 ∨ ∃ es sp, d = .slice es sp ∧ es.length = len) := by
  obtain ⟨fuel, hf⟩ := h
  rcases open_ints ht he hc hf with ⟨hcs, _⟩ | ⟨x, l, c, zs, hcs, _, hl, hm, hz, hd, hcell, hwz⟩
  · simp [Value.cells] at hcs
    obtain ⟨rfl, rfl, rfl⟩ := hcs
    exact ⟨[], .inl ⟨rfl, rfl, rfl, rfl⟩, .inl rfl⟩
  · simp [Value.cells] at hcs
    obtain ⟨rfl, rfl, rfl⟩ := hcs
    have hz' : zs.length = cap := by simpa using hz
    refine ⟨zs, .inr ⟨_, rfl, hl, hm, hz', hcell, hwz⟩, .inr ⟨_, _, (Prod.mk.inj hd).1, ?_⟩⟩
    simp [lits]
    omega

/-- bytes -/
theorem opened_bytes {H : Type} {P : Program} {enc : TypeId × Value → H} {w : World} {t e : TypeId} {d : DataW H} {p : List MemPlace} {a : Option Addr} {len cap : Nat}
    (ht : P.underlying t = some (.slice e)) (he : P.underlying e = some (.int .u8)) (hc : P.cellsOf e = 1) (h : DataW.Trod enc P w 0 (fun _ => true) true t (.slice a len cap) d p) :
    ∃ bs, Rd w a len cap (vb bs) ∧ AllB bs ∧ (len = 0 ∨ ∃ es sp, d = .slice es sp ∧ es.length = len) := by
  obtain ⟨zs, h1, h2⟩ := opened_ints ht he hc h
  obtain ⟨bs, hr, hb⟩ := rd_of_row h1
  exact ⟨bs, hr, hb, h2⟩

/-- pairs of ints -/
theorem opened_pairs {H : Type} {P : Program} {enc : TypeId × Value → H} {w : World} {t e i : TypeId} {f0 f1 : Field} {d : DataW H} {p : List MemPlace} {a : Option Addr} {len cap : Nat}
    (ht : P.underlying t = some (.slice e)) (he : P.underlying e = some (.struct #[f0, f1])) (hi : P.underlying i = some (.int .i64)) (h0 : f0.type = i) (h1 : f1.type = i) (o0 : f0.offset = 0) (o1 : f1.offset = 1)
    (hc : P.cellsOf e = 2) (hci : P.cellsOf i = 1) (h : DataW.Trod enc P w 0 (fun _ => true) true t (.slice a len cap) d p) :
    ∃ ts : Nat → Int × Int, len ≤ cap ∧ cap ≤ maxLen ∧ (0 < len → ∃ b off, a = some ⟨b, off, none⟩ ∧ b < w.heap.size ∧ ∀ j, j < len → w.cell? ⟨b, off + j * 2, none⟩ = some (.int .i64 (ts j).1) ∧ w.cell? ⟨b, off + j * 2 + 1, none⟩ = some (.int .i64 (ts j).2)) ∧
      (∀ j, j < len → -9223372036854775808 ≤ (ts j).1 ∧ (ts j).1 ≤ 9223372036854775807 ∧ -9223372036854775808 ≤ (ts j).2 ∧ (ts j).2 ≤ 9223372036854775807) ∧
      (len = 0 ∨ ∃ es sp, d = .slice es sp ∧ es.length = len) := by
  obtain ⟨fuel, hf⟩ := h
  rcases Go.Deep.open_slice ht hf with ⟨hcs, _⟩ | ⟨x, l, c, m, n, D, Pl, hcs, _, hl, hm, hmm, hd, hx⟩
  · simp [Value.cells] at hcs
    obtain ⟨rfl, rfl, rfl⟩ := hcs
    exact ⟨fun _ => (0, 0), Nat.le_refl _, Nat.zero_le _, fun h => absurd h (by omega), fun j hj => absurd hj (by omega), .inl rfl⟩
  · simp [Value.cells] at hcs
    obtain ⟨rfl, rfl, rfl⟩ := hcs
    have hm' : m = cap := by simpa using hmm
    subst hm'
    have each : ∀ j, j < m → ∃ t : Int × Int, w.cell? (x.add (j * 2)) = some (.int .i64 t.1) ∧ w.cell? (x.add (j * 2 + 1)) = some (.int .i64 t.2) ∧ (Lit.int .i64 t.1).wf = true ∧ (Lit.int .i64 t.2).wf = true := by
      intro j hj
      obtain ⟨cs, hcs, htr⟩ := hx j hj
      rw [hc] at hcs
      obtain ⟨_, hlen, hget⟩ := World.cells?_some hcs
      obtain ⟨y0, y1, n', _, _, e0, e1⟩ := trod_struct2 he htr
      rw [h0, hci, o0] at e0
      rw [h1, hci, o1] at e1
      obtain ⟨z0, hz0, _, hw0⟩ := DataW.trod_int hi e0
      obtain ⟨z1, hz1, _, hw1⟩ := DataW.trod_int hi e1
      match cs, hlen with
      | [c0, c1], _ =>
        simp at hz0 hz1
        subst hz0 hz1
        have g0 := hget 0 (by omega)
        have g1 := hget 1 (by omega)
        simp [Addr.add] at g0 g1
        exact ⟨(z0, z1), by simpa [Addr.add] using g0, by
          rcases Nat.eq_zero_or_pos j with h | h
          · subst h; simpa [Addr.add] using g1
          · simpa [Addr.add, Nat.add_assoc, show ¬ (j * 2 = 0) by omega] using g1, hw0, hw1⟩
    let ts : Nat → Int × Int := fun j => if h : j < m then (each j h).choose else (0, 0)
    have hts : ∀ j, j < m → w.cell? (x.add (j * 2)) = some (.int .i64 (ts j).1) ∧ w.cell? (x.add (j * 2 + 1)) = some (.int .i64 (ts j).2) ∧ (Lit.int .i64 (ts j).1).wf = true ∧ (Lit.int .i64 (ts j).2).wf = true := by
      intro j hj
      show w.cell? (x.add (j * 2)) = some (.int .i64 (if h : j < m then (each j h).choose else (0, 0)).1) ∧ _
      have : ts j = (each j hj).choose := by simp only [ts, dif_pos hj]
      simp only [dif_pos hj]
      rw [this]
      exact (each j hj).choose_spec
    refine ⟨ts, hl, hm, fun hn => ?_, fun j hj => ?_, .inr ⟨_, _, (Prod.mk.inj hd).1, by simp⟩⟩
    · obtain ⟨b, off, rfl, hlt⟩ := spot_of_cell (by simpa using (hts 0 (by omega)).1)
      refine ⟨b, off, rfl, hlt, fun j hj => ?_⟩
      have := hts j (by omega)
      rw [Addr.add_lit, Addr.add_lit] at this
      exact ⟨this.1, by simpa [Nat.add_assoc] using this.2.1⟩
    · have := hts j (by omega)
      have w0 := this.2.2.1
      have w1 := this.2.2.2
      exact ⟨(bounds_i64 w0).1, (bounds_i64 w0).2, (bounds_i64 w1).1, (bounds_i64 w1).2⟩
end Go.Proofs.Ytjiipmalahhcpaa
/- What the frame hands over, opened: a row of structs, or of rows. -/
namespace Go.Proofs.Ytjiipmalahhcpaa
open Go.ChangeShapes Go.WideShapes Go.ChangeAt Go.RowKit
set_option linter.unusedVariables false

/-- a row whose elements have c cells each: f j is what the j-th reads as, cs j are its cells -/
structure RdRow {α : Type} (c : Nat) (w : World) (ao : Option Addr) (n cap : Nat) (want : List Value → α → Prop) (cs : Nat → List Value) (f : Nat → α) : Prop where
  le : n ≤ cap
  max : cap ≤ maxLen
  mem : 0 < n → ∃ b off, ao = some ⟨b, off, none⟩ ∧ b < w.heap.size ∧ ∀ j, j < n → ∀ k v, (cs j)[k]? = some v → w.cell? ⟨b, off + j * c + k, none⟩ = some v
  each : ∀ j, j < n → (cs j).length = c ∧ want (cs j) (f j)

theorem opened_row {H : Type} {α : Type} [Inhabited α] {P : Program} {enc : TypeId × Value → H} {w : World} {t e : TypeId} {d : DataW H} {p : List MemPlace} {a : Option Addr} {len cap : Nat} {c : Nat}
    (want : List Value → α → Prop) (ht : P.underlying t = some (.slice e)) (hc : P.cellsOf e = c) (hc0 : 0 < c)
    (one : ∀ cs fuel x, DataW.trod enc P w 0 (fun _ => true) true fuel e cs = some x → ∃ a, want cs a)
    (h : DataW.Trod enc P w 0 (fun _ => true) true t (.slice a len cap) d p) :
    ∃ cs f, RdRow c w a len cap want cs f ∧ (len = 0 ∨ ∃ es sp, d = .slice es sp ∧ es.length = len) := by
  obtain ⟨fuel, hf⟩ := h
  rcases Go.Deep.open_slice ht hf with ⟨hcs, _⟩ | ⟨x, l, k, m, n, D, Pl, hcs, _, hl, hm, hmm, hd, hx⟩
  · simp [Value.cells] at hcs
    obtain ⟨rfl, rfl, rfl⟩ := hcs
    exact ⟨fun _ => [], fun _ => default, ⟨Nat.le_refl _, Nat.zero_le _, fun h => absurd h (by omega), fun j hj => absurd hj (by omega)⟩, .inl rfl⟩
  · simp [Value.cells] at hcs
    obtain ⟨rfl, rfl, rfl⟩ := hcs
    have hm' : m = cap := by simpa using hmm
    subst hm'
    have each : ∀ j, j < m → ∃ y : List Value × α, w.cells? 0 (x.add (j * c)) c = some y.1 ∧ y.1.length = c ∧ want y.1 y.2 := by
      intro j hj
      obtain ⟨cs, hcs, htr⟩ := hx j hj
      rw [hc] at hcs
      obtain ⟨v, hv⟩ := one cs _ _ htr
      exact ⟨(cs, v), hcs, (World.cells?_some hcs).2.1, hv⟩
    obtain ⟨g, hg⟩ := Go.Deep.choose_lt each
    refine ⟨fun j => (g j).1, fun j => (g j).2, ⟨hl, hm, fun hn => ?_, fun j hj => (hg j (by omega)).2⟩, .inr ⟨_, _, (Prod.mk.inj hd).1, by simp⟩⟩
    have e0 := World.cells?_some (hg 0 (by omega)).1
    have e00 := e0.2.2 0 hc0
    rw [Nat.zero_mul] at e00
    have hpos : 0 < ((g 0).1).length := by rw [(hg 0 (by omega)).2.1]; exact hc0
    have e01 : w.cell? (x.add 0) = some ((g 0).1)[0] := by
      rw [← List.getElem?_eq_getElem hpos, ← e00]
      congr 1
    obtain ⟨b, off, rfl, hlt⟩ := spot_of_cell e01
    refine ⟨b, off, rfl, hlt, fun j hj k v hv => ?_⟩
    have hk : k < c := by
      have := (List.getElem?_eq_some_iff.1 hv).1
      rwa [(hg j (by omega)).2.1] at this
    have := (World.cells?_some (hg j (by omega)).1).2.2 k hk
    rw [Addr.add_lit, Addr.add_lit] at this
    exact this.trans hv

/-- a row of bytes inside another thing -/
theorem inner_bytes {H : Type} {P : Program} {enc : TypeId × Value → H} {w : World} {t e : TypeId} {x : DataW H × List MemPlace} {fuel : Nat} {cs : List Value}
    (ht : P.underlying t = some (.slice e)) (he : P.underlying e = some (.int .u8)) (hc : P.cellsOf e = 1) (h : DataW.trod enc P w 0 (fun _ => true) true fuel t cs = some x) :
    ∃ a len cap bs, cs = [.slice a len cap] ∧ Rd w a len cap (vb bs) ∧ AllB bs := by
  rcases open_ints ht he hc h with ⟨hcs, _⟩ | ⟨x, l, c, zs, hcs, _, hl, hm, hz, hd, hcell, hwz⟩
  · obtain ⟨bs, hr, hb⟩ := rd_of_row (w := w) (a := none) (len := 0) (cap := 0) (zs := []) (.inl ⟨rfl, rfl, rfl, rfl⟩)
    exact ⟨none, 0, 0, bs, hcs, hr, hb⟩
  · have hz' : zs.length = c := by simpa using hz
    obtain ⟨bs, hr, hb⟩ := rd_of_row (w := w) (a := some x) (len := l) (cap := c) (zs := zs) (.inr ⟨_, rfl, hl, hm, hz', hcell, hwz⟩)
    exact ⟨some x, l, c, bs, hcs, hr, hb⟩

/-- a row of rows of bytes -/
def isBytes (w : World) (cs : List Value) (b : (Option Addr × Nat × Nat) × List Nat) : Prop :=
  cs = [.slice b.1.1 b.1.2.1 b.1.2.2] ∧ Rd w b.1.1 b.1.2.1 b.1.2.2 (vb b.2) ∧ AllB b.2

theorem one_bytes {H : Type} {P : Program} {enc : TypeId × Value → H} {w : World} {t e : TypeId} {x : DataW H × List MemPlace} {fuel : Nat} {cs : List Value}
    (ht : P.underlying t = some (.slice e)) (he : P.underlying e = some (.int .u8)) (hc : P.cellsOf e = 1) (h : DataW.trod enc P w 0 (fun _ => true) true fuel t cs = some x) :
    ∃ b, isBytes w cs b := by
  obtain ⟨a, len, cap, bs, h1, h2, h3⟩ := inner_bytes ht he hc h
  exact ⟨((a, len, cap), bs), h1, h2, h3⟩
end Go.Proofs.Ytjiipmalahhcpaa
