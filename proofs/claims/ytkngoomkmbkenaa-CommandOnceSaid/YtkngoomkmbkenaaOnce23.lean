/- CommandOnce: the posts; the first loop. -/
import Derived.Test.YtkngoomkmbkenaaOnce22
namespace Go.Proofs.Ytkngoomkmbkenaa
set_option linter.unusedVariables false
open Go.RowKit

instance : Inhabited PO := ⟨⟨0, 0, 0, false, false, 0⟩⟩
def InI (z : Int) : Prop := -9223372036854775808 ≤ z ∧ z ≤ 9223372036854775807
structure RdP (W : World) (a : Option Addr) (n c : Nat) (f : Nat → PO) : Prop where
  le : n ≤ c
  max : c ≤ maxLen
  mem : 0 < n → ∃ b off, a = some ⟨b, off, none⟩ ∧ b < W.heap.size ∧ ∀ j, j < n → W.cell? ⟨b, off + j * 6, none⟩ = some (.int .i64 (f j).ask) ∧ W.cell? ⟨b, off + j * 6 + 1, none⟩ = some (.int .i64 (f j).come) ∧ W.cell? ⟨b, off + j * 6 + 2, none⟩ = some (.int .i64 (f j).lose) ∧ W.cell? ⟨b, off + j * 6 + 3, none⟩ = some (.bool (f j).full) ∧ W.cell? ⟨b, off + j * 6 + 4, none⟩ = some (.bool (f j).deaf) ∧ W.cell? ⟨b, off + j * 6 + 5, none⟩ = some (.int .i64 (f j).again)
  inr : ∀ j, j < n → InI (f j).ask ∧ InI (f j).come ∧ InI (f j).lose ∧ InI (f j).again
theorem RdP.cells {W W' : World} {a : Option Addr} {n c : Nat} {f : Nat → PO} (h : RdP W a n c f) (hb : Below W.heap.size W W') (j : Nat) (hj : j < n) :
    ∃ b off, a = some ⟨b, off, none⟩ ∧ W'.cell? ⟨b, off + j * 6, none⟩ = some (.int .i64 (f j).ask) ∧ W'.cell? ⟨b, off + j * 6 + 1, none⟩ = some (.int .i64 (f j).come) ∧ W'.cell? ⟨b, off + j * 6 + 2, none⟩ = some (.int .i64 (f j).lose) ∧ W'.cell? ⟨b, off + j * 6 + 3, none⟩ = some (.bool (f j).full) ∧ W'.cell? ⟨b, off + j * 6 + 4, none⟩ = some (.bool (f j).deaf) ∧ W'.cell? ⟨b, off + j * 6 + 5, none⟩ = some (.int .i64 (f j).again) := by
  obtain ⟨b, off, h1, h2, h3⟩ := h.mem (by omega)
  obtain ⟨k0, k1, k2, k3, k4, k5⟩ := h3 j hj
  have hk := fun o => World.cell?_of_block (a := ⟨b, o, none⟩) (hb.block b h2)
  exact ⟨b, off, h1, (hk _).trans k0, (hk _).trans k1, (hk _).trans k2, (hk _).trans k3, (hk _).trans k4, (hk _).trans k5⟩
set_option maxRecDepth 1000000 in
theorem fr96 (y : Nat → Value) : fr 96 y = #[y 0, y 1, y 2, y 3, y 4, y 5, y 6, y 7, y 8, y 9, y 10, y 11, y 12, y 13, y 14, y 15, y 16, y 17, y 18, y 19, y 20, y 21, y 22, y 23, y 24, y 25, y 26, y 27, y 28, y 29, y 30, y 31, y 32, y 33, y 34, y 35, y 36, y 37, y 38, y 39, y 40, y 41, y 42, y 43, y 44, y 45, y 46, y 47, y 48, y 49, y 50, y 51, y 52, y 53, y 54, y 55, y 56, y 57, y 58, y 59, y 60, y 61, y 62, y 63, y 64, y 65, y 66, y 67, y 68, y 69, y 70, y 71, y 72, y 73, y 74, y 75, y 76, y 77, y 78, y 79, y 80, y 81, y 82, y 83, y 84, y 85, y 86, y 87, y 88, y 89, y 90, y 91, y 92, y 93, y 94, y 95] := rfl
structure OI (ah pt pz L B : Nat) (w0 W : World) (s : LS) (l : LK) (k : Nat) : Prop where
  M : LM W L B s
  P : LP ah pt pz s l
  I : Inv ah pt pz l
  way : l.way.length ≤ 40 * k
  old : l.old.length ≤ 40 * k
  blw : Below B w0 W
def lp1I (ah pt pz L B n : Nat) (a : Option Addr) (c : Nat) (w0 : World) (y : Nat → Value) (W : World) : Prop :=
  y 3 = .slice a n c ∧ y 9 = .pointer (some ⟨L, 0, none⟩) ∧ ∃ i s l, y 11 = .int .i64 ((i : Nat) : Int) ∧ i ≤ n ∧ OI ah pt pz L B w0 W s l i ∧ (i = 0 → l.h.A = 0)
theorem OI.tick {ah pt pz L B : Nat} {w0 W W' : World} {s : LS} {l : LK} {i k : Nat} {p : PO} {lz : Nat → Bool} {e : Ending} (h : OI ah pt pz L B w0 W s l i) (hpt : 0 < pt) (hah : ah ≤ 40) (ht : TickR ah pt pz L B W W' (tickL ah pt pz k p lz l) e) : ∃ s', OI ah pt pz L B w0 W' s' (tickL ah pt pz k p lz l) (i + 1) := by
  obtain ⟨s', hm, hp⟩ := ht.ex
  obtain ⟨h1, h2, h3⟩ := h.I.tickL (k := k) hpt p lz
  have h4 := h.way
  have h5 := h.old
  exact ⟨s', hm, hp, h1, by omega, by omega, h.blw.trans ht.blw⟩
set_option maxRecDepth 1000000 in
set_option maxHeartbeats 4000000 in
theorem lp_6 (ah pt pz L B n c : Nat) (a : Option Addr) (f : Nat → PO) (s : LS) (l : LK) (w0 w : World) (hBL : B ≤ L) (hB0 : B = w0.heap.size) (hR : RdP w0 a n c f) (hn : n ≤ 300) (h0 : OI ah pt pz L B w0 w s l 0) (hA : l.h.A = 0) (hah0 : 0 < ah) (hah1 : ah ≤ 40) (hpt0 : 0 < pt) (hpt : pt ≤ 12) (hpz : pz ≤ 12) :
    Tri Try.prog 96 (pieceOf Try.f4 [1, 1, 1, 1, 0]) (fun y w' => w' = w ∧ y 3 = .slice a n c ∧ y 9 = .pointer (some ⟨L, 0, none⟩))
      (fun y _ y' w' => y' 3 = .slice a n c ∧ y' 9 = .pointer (some ⟨L, 0, none⟩) ∧ ∃ s' l', OI ah pt pz L B w0 w' s' l' n ∧ (n = 0 → l'.h.A = 0)) := by
  rintro Q y w ⟨rfl, s3, s9⟩ hQ
  have HQ := hid hQ
  clear hQ
  dsimp only at HQ
  have H0 := hid h0
  have HR := hid hR
  have HB0 := hid hB0
  clear h0 hR hB0
  conv => arg 2; whnf
  rw [fr96]
  simp only [s3, s9]
  clear s3 s9
  refine wp_seq_k (fun K0 hK0 => ?_)
  go_wp2_with fail
  refine hK0.out _ _ ?_
  refine wp_block ?_
  refine wp_loop_fr 96 (lp1I ah pt pz L B n a c w0) (fun y _ => n - (intOf (y 11)).toNat) ⟨rfl, rfl, ⟨rfl, rfl, 0, s, l, rfl, Nat.zero_le _, H0.out, fun _ => hA⟩⟩ ?_
  clear H0 hA
  rintro z W ⟨s3, s9, i, s', l', s11, hin, hO, hA⟩
  have HO := hid hO
  have HA := hid hA
  clear hO hA
  rw [fr96]
  simp only [s3, s9, s11]
  clear s3 s9 s11
  by_cases hlt : i < n
  · have d1 : decide ((i : Int) < (n : Int)) = true := decide_eq_true (by omega)
    have hik : (i : Int) < (n : Int) := by omega
    have hbl := HO.out.blw
    rw [HB0.out] at hbl
    obtain ⟨b, off, rfl, k0, k1, k2, k3, k4, k5⟩ := HR.out.cells hbl i hlt
    obtain ⟨q1, q2, q3, q4⟩ := HR.out.inr i hlt
    have Hin := hid (And.intro q1 (And.intro q2.2 (And.intro q3 q4)))
    have hw : l'.way.length ≤ 90000 := by have := HO.out.way; omega
    have ho : l'.old.length ≤ 90000 := by have := HO.out.old; omega
    have htick := tick_ok ah pt pz L B (f i) s' l' W hBL HO.out.M HO.out.P HO.out.I hah0 (by omega) hpt0 (by omega) (by omega) hw ho Hin.out.1 Hin.out.2.1 Hin.out.2.2.1 Hin.out.2.2.2
    unfold PO.cells at htick
    have Htick := hid htick
    generalize f i = p at *
    clear q1 q2 q3 q4 hw ho htick hbl
    have hio : (0 : Int) ≤ (i : Int) := by omega
    have hit : ((i : Nat) : Int).toNat = i := rfl
    go_upto_block 1 with (fail)
    refine wp_block ?_
    refine wp_seq_k (fun K1 hK1 => ?_)
    go_wp2_with fail
    refine Htick.out.mono ?_
    rintro e V ht
    obtain ⟨s2, hO2⟩ := HO.out.tick hpt0 hah1 ht
    obtain rfl := ht.he
    have HO2 := hid hO2
    clear hO2 ht Htick HO k0 k1 k2 k3 k4 k5
    go_wp2_with fail
    refine hK1.out _ _ ?_
    go_wp2_with fail
    refine ⟨rfl, rfl, ⟨rfl, rfl, i + 1, s2, _, ?_, by omega, HO2.out, fun h => by omega⟩, ?_⟩
    · show Value.int .i64 _ = Value.int .i64 _
      go_num
    · show n - (intOf (Value.int .i64 _)).toNat < _
      simp [intOf]
      omega
  · obtain rfl : i = n := by omega
    have d1 : decide ((i : Int) < (i : Int)) = false := decide_eq_false (by omega)
    go_wp2_with fail
    exact q_fr (N := 96) HQ.out rfl ⟨rfl, rfl, s', l', HO.out, HA.out⟩
end Go.Proofs.Ytkngoomkmbkenaa
/- CommandOnce: the quiet ticks. -/
namespace Go.Proofs.Ytkngoomkmbkenaa
set_option linter.unusedVariables false
open Go.RowKit

def quietP : PO := ⟨0, 1000, 0, false, false, -1⟩
theorem pk_0 : pk 0 5 = 0 := by unfold pk; rfl
def lp4I (ah pt pz L B n : Nat) (a : Option Addr) (c : Nat) (w0 : World) (k i : Nat) (l0 : LK) (y : Nat → Value) (W : World) : Prop :=
  y 3 = .slice a n c ∧ y 9 = .pointer (some ⟨L, 0, none⟩) ∧ y 12 = .int .i64 ((i : Nat) : Int) ∧ ∃ j s, y 13 = .int .i64 ((j : Nat) : Int) ∧ j ≤ 30 ∧ OI ah pt pz L B w0 W s (quiets ah pt pz j l0) (k + j)
set_option maxRecDepth 1000000 in
set_option maxHeartbeats 4000000 in
theorem lp_14 (ah pt pz L B n c k i : Nat) (a : Option Addr) (s : LS) (l : LK) (w0 w : World) (hBL : B ≤ L) (hk : k ≤ 2070) (h0 : OI ah pt pz L B w0 w s l k) (hah0 : 0 < ah) (hah1 : ah ≤ 40) (hpt0 : 0 < pt) (hpt : pt ≤ 12) (hpz : pz ≤ 12) :
    Tri Try.prog 96 (pieceOf Try.f4 [1, 1, 1, 1, 1, 0, 1, 0, 0, 1, 0, 0]) (fun y w' => w' = w ∧ y 3 = .slice a n c ∧ y 9 = .pointer (some ⟨L, 0, none⟩) ∧ y 12 = .int .i64 (i : Int))
      (fun y _ y' w' => y' 3 = .slice a n c ∧ y' 9 = .pointer (some ⟨L, 0, none⟩) ∧ y' 12 = .int .i64 (i : Int) ∧ ∃ s', OI ah pt pz L B w0 w' s' (quiets ah pt pz 30 l) (k + 30)) := by
  rintro Q y w ⟨rfl, s3, s9, s12⟩ hQ
  have HQ := hid hQ
  clear hQ
  dsimp only at HQ
  have H0 := hid h0
  clear h0
  conv => arg 2; whnf
  rw [fr96]
  simp only [s3, s9, s12]
  clear s3 s9 s12
  refine wp_seq_k (fun K0 hK0 => ?_)
  go_wp2_with fail
  refine hK0.out _ _ ?_
  refine wp_block ?_
  refine wp_loop_fr 96 (lp4I ah pt pz L B n a c w0 k i l) (fun y _ => 30 - (intOf (y 13)).toNat) ⟨rfl, rfl, ⟨rfl, rfl, rfl, 0, s, rfl, Nat.zero_le _, H0.out⟩⟩ ?_
  clear H0
  rintro z W ⟨s3, s9, s12, j, s', s13, hj, hO⟩
  have HO := hid hO
  clear hO
  rw [fr96]
  simp only [s3, s9, s12, s13]
  clear s3 s9 s12 s13
  by_cases hlt : j < 30
  · have d1 : decide ((j : Int) < 30) = true := decide_eq_true (by omega)
    have hik : (j : Int) < 30 := by omega
    have hw : (quiets ah pt pz j l).way.length ≤ 90000 := by have := HO.out.way; omega
    have ho : (quiets ah pt pz j l).old.length ≤ 90000 := by have := HO.out.old; omega
    have htick := tick_ok ah pt pz L B quietP s' (quiets ah pt pz j l) W hBL HO.out.M HO.out.P HO.out.I hah0 (by omega) hpt0 (by omega) (by omega) hw ho (by decide) (by decide) (by decide) (by decide)
    rw [show pk quietP.ask 5 = 0 from pk_0] at htick
    unfold PO.cells quietP at htick
    dsimp only at htick
    have Htick := hid htick
    clear hw ho htick
    go_upto_block 5 with (fail)
    refine wp_block ?_
    refine wp_seq_k (fun K1 hK1 => ?_)
    go_wp2_with fail
    refine Htick.out.mono ?_
    rintro e V ht
    obtain ⟨s2, hO2⟩ := HO.out.tick hpt0 hah1 ht
    obtain rfl := ht.he
    rw [tickL_quiet HO.out.I _ lzF_0, ← quiets_succ] at hO2
    have HO2 := hid hO2
    clear hO2 ht Htick HO
    go_wp2_with fail
    refine hK1.out _ _ ?_
    go_wp2_with fail
    refine ⟨rfl, rfl, ⟨rfl, rfl, rfl, j + 1, s2, ?_, by omega, HO2.out⟩, ?_⟩
    · show Value.int .i64 _ = Value.int .i64 _
      go_num
    · show 30 - (intOf (Value.int .i64 _)).toNat < _
      simp [intOf]
      omega
  · obtain rfl : j = 30 := by omega
    rw [show ((30 : Nat) : Int) = 30 from rfl]
    go_wp2_with fail
    exact q_fr (N := 96) HQ.out rfl ⟨rfl, rfl, rfl, s', HO.out⟩
def lp2I (ah pt pz L B n : Nat) (a : Option Addr) (c : Nat) (w0 : World) (l0 : LK) (y : Nat → Value) (W : World) : Prop :=
  y 3 = .slice a n c ∧ y 9 = .pointer (some ⟨L, 0, none⟩) ∧ ∃ i s, y 12 = .int .i64 ((i : Nat) : Int) ∧ i ≤ 60 ∧ OI ah pt pz L B w0 W s (quiets ah pt pz (30 * i) l0) (300 + 30 * i)
/-- how a link stands at the end -/
def endL (l0 l : LK) : Prop := l.h.A = l0.h.A ∧ (l.h.hl = true ∨ (l.r = l0.h.A ∧ l.h.b = l0.h.A ∧ l.h.N = l0.h.A))
set_option maxRecDepth 1000000 in
set_option maxHeartbeats 4000000 in
theorem lp_11 (ah pt pz L B n c : Nat) (a : Option Addr) (s : LS) (l : LK) (w0 w : World) (hBL : B ≤ L) (h0 : OI ah pt pz L B w0 w s l 300) (hah0 : 0 < ah) (hah1 : ah ≤ 40) (hpt0 : 0 < pt) (hpt : pt ≤ 12) (hpz : pz ≤ 12) :
    Tri Try.prog 96 (pieceOf Try.f4 [1, 1, 1, 1, 1, 0]) (fun y w' => w' = w ∧ y 3 = .slice a n c ∧ y 9 = .pointer (some ⟨L, 0, none⟩))
      (fun y _ y' w' => y' 3 = .slice a n c ∧ y' 9 = .pointer (some ⟨L, 0, none⟩) ∧ ∃ s' l' k, OI ah pt pz L B w0 w' s' l' k ∧ endL l l') := by
  rintro Q y w ⟨rfl, s3, s9⟩ hQ
  have HQ := hid hQ
  clear hQ
  dsimp only at HQ
  have H0 := hid h0
  clear h0
  conv => arg 2; whnf
  rw [fr96]
  simp only [s3, s9]
  clear s3 s9
  refine wp_seq_k (fun K0 hK0 => ?_)
  go_wp2_with fail
  refine hK0.out _ _ ?_
  refine wp_block ?_
  refine wp_loop_fr 96 (lp2I ah pt pz L B n a c w0 l) (fun y _ => 60 - (intOf (y 12)).toNat) ⟨rfl, rfl, ⟨rfl, rfl, 0, s, rfl, Nat.zero_le _, H0.out⟩⟩ ?_
  have HL := hid H0.out
  clear H0
  rintro z W ⟨s3, s9, i, s', s12, hi, hO⟩
  have HO := hid hO
  clear hO
  rw [fr96]
  simp only [s3, s9, s12]
  clear s3 s9 s12
  have c11 : W.cell? ⟨L, 11, none⟩ = some (.int .i64 (s'.x.ha : Int)) := by rw [cell_of_row _ _ _ _ _ _ HO.out.M.bx]; rfl
  have hha := HO.out.P.H.ha
  have hA := (quiets_inv hpt0 (30 * i) l HL.out.I).2
  by_cases hlt : i < 60
  · have d1 : decide ((i : Int) < 60) = true := decide_eq_true (by omega)
    have hik : (i : Int) < 60 := by omega
    by_cases hhl : (quiets ah pt pz (30 * i) l).h.hl = true
    · rw [if_pos hhl] at hha
      rw [hha] at c11
      have He := hid (show endL l (quiets ah pt pz (30 * i) l) from ⟨hA, .inl hhl⟩)
      clear hha hA hhl
      rw [show ((19 : Nat) : Int) = 19 from rfl] at c11
      go_wp2_with fail
      exact q_fr (N := 96) HQ.out rfl ⟨rfl, rfl, s', _, _, HO.out, He.out⟩
    · rw [if_neg hhl] at hha
      rw [hha] at c11
      rw [show ((0 : Nat) : Int) = 0 from rfl] at c11
      clear hha hA hhl
      go_upto_block 3 with (fail)
      refine wp_block ?_
      refine Tri.use (lp_14 ah pt pz L B n c (300 + 30 * i) i a s' (quiets ah pt pz (30 * i) l) w0 W hBL (by omega) HO.out hah0 hah1 hpt0 hpt hpz) rfl ⟨rfl, rfl, rfl, rfl⟩ ?_
      rintro y4 W4 ⟨t3, t9, t12, s4, hO4⟩
      rw [← quiets_add, show 30 * i + 30 = 30 * (i + 1) by omega, show 300 + 30 * i + 30 = 300 + 30 * (i + 1) by omega] at hO4
      have HO4 := hid hO4
      clear hO4 HO c11
      rw [fr96]
      simp only [t3, t9, t12]
      clear t3 t9 t12
      go_wp2_with fail
      refine ⟨rfl, rfl, ⟨rfl, rfl, i + 1, s4, ?_, by omega, HO4.out⟩, ?_⟩
      · show Value.int .i64 _ = Value.int .i64 _
        go_num
      · show 60 - (intOf (Value.int .i64 _)).toNat < _
        simp [intOf]
        omega
  · obtain rfl : i = 60 := by omega
    have hlive := live HL.out.I hpt0 hpt hah0 hah1 (by have := HL.out.way; omega) (30 * 60) (by decide)
    have He := hid (show endL l (quiets ah pt pz (30 * 60) l) from ⟨hA, hlive⟩)
    clear hha hA hlive
    rw [show ((60 : Nat) : Int) = 60 from rfl]
    go_wp2_with fail
    exact q_fr (N := 96) HQ.out rfl ⟨rfl, rfl, s', _, _, HO.out, He.out⟩
end Go.Proofs.Ytkngoomkmbkenaa
/- CommandOnce: the law. -/
namespace Go.Proofs.Ytkngoomkmbkenaa
set_option linter.unusedVariables false
open Go.RowKit

def lk0 (pz : Nat) : LK := ⟨⟨0, 0, 0, 0, 0, pz, false⟩, 0, false, false, [], [], 0, false, false, false⟩
theorem inv0 (ah pt pz : Nat) (hpt : 0 < pt) : Inv ah pt pz (lk0 pz) :=
  ⟨Nat.le_refl _, Nat.le_refl _, Nat.le_refl _, Nat.zero_le _, Nat.zero_le _, hpt, Nat.zero_le _, Nat.le_refl _, (fun i hi => by cases hi), (fun i hi => by cases hi), (fun h => by cases h), Nat.le_refl _, (fun h => by cases h), (fun h => by cases h), (fun h => by cases h)⟩
theorem lp0 (ah pt pz : Nat) : LP ah pt pz (ls0 ah pt pz) (lk0 pz) :=
  ⟨⟨rfl, rfl, rfl, rfl, rfl, rfl, rfl, rfl, rfl, rfl, rfl, rfl⟩, rfl, rfl, rfl, rfl, rfl, ⟨8, .inl ⟨rfl, rfl, rfl, rfl, rfl⟩, (fun h => by cases h)⟩, rfl⟩
theorem apart_none {c : Nat} {v : Value} : Apart (.slice none 0 c) v := fun k h => by cases h
theorem lr0 (W : World) (B ah pt pz : Nat) : LR W B (ls0 ah pt pz) :=
  ⟨OwnAt.nil _ _ _, OwnAt.nil _ _ _, OwnAt.nil _ _ _, OwnAt.nil _ _ _, OwnAt.nil _ _ _, RR.nil _ _, RR.nil _ _, RR.nil _ _, RR.nil _ _, apart_none, apart_none, apart_none, apart_none, apart_none, (fun r hr => by cases hr), (fun r hr => by cases hr), (fun r hr => by cases hr), (fun r hr => by cases hr)⟩
set_option maxRecDepth 1000000 in
set_option maxHeartbeats 8000000 in
theorem once_ok (a1 a2 a3 : Int) (ja : Option Addr) (n c : Nat) (f : Nat → PO) (W0 : World) (h1 : InI a1) (h2 : InI a2) (h3 : InI a3) (hR : RdP W0 ja n c f) :
    Calls Try.prog 4 #[.int .i64 a1, .int .i64 a2, .int .i64 a3, .slice ja n c] W0 fun e w' => e = .returned (.bool true) ∧ Below W0.heap.size W0 w' := by
  have hmx := Nat.le_trans hR.le hR.max
  unfold maxLen at hmx
  have HR := hid hR
  have Hbeg := hid (begins_ok a1 a2 a3 W0 h1 h2 h3)
  clear hR h1 h2 h3
  by_cases hn : n ≤ 300
  · have d1 : decide ((300 : Int) < (n : Int)) = false := decide_eq_false (by omega)
    have d2 : decide (300 < n) = false := decide_eq_false (by omega)
    have d3 : ¬ 300 < n := by omega
    have d4 : ¬ (300 : Int) < (n : Int) := by omega
    go_enter Try.func4, Try.ntmps4
    refine wp_seq_k (fun K0 hK0 => ?_)
    go_wp2_with fail
    refine hK0.out _ _ ?_
    refine wp_seq_k (fun K1 hK1 => ?_)
    go_wp2_with fail
    refine hK1.out _ _ ?_
    clear d1 d2 d3 d4
    refine wp_seq_k (fun K2 hK2 => ?_)
    go_wp2_with fail
    refine Hbeg.out.mono ?_
    rintro e V ⟨⟨ah, pt, pz, hah, hpt, hpz, rfl⟩, hb⟩
    have bN := below_alloc V (.cells #[.int .i64 0, .int .i64 0, .int .i64 0, .slice none 0 0, .slice none 0 0, .int .i64 0, .int .i64 0, .int .i64 0, .int .i64 0, .int .i64 0, .int .i64 0, .int .i64 0, .int .i64 0, .int .i64 0, .int .i64 0, .bool false, .bool false, .bool false, .int .i64 0, .slice none 0 0, .slice none 0 0, .slice none 0 0, .int .i64 0, .int .i64 0, .bool false] 44)
    have HL := hid (heap_alloc_new V (.cells #[.int .i64 0, .int .i64 0, .int .i64 0, .slice none 0 0, .slice none 0 0, .int .i64 0, .int .i64 0, .int .i64 0, .int .i64 0, .int .i64 0, .int .i64 0, .int .i64 0, .int .i64 0, .int .i64 0, .int .i64 0, .bool false, .bool false, .bool false, .int .i64 0, .slice none 0 0, .slice none 0 0, .slice none 0 0, .int .i64 0, .int .i64 0, .bool false] 44))
    have HB := hid (hb.trans (bN.mono hb.size))
    have hLB : W0.heap.size ≤ V.heap.size := hb.size
    clear bN hb Hbeg
    go_wp2_with (with_reducible refine at_store 44 ?_)
    unfold Hid
    obtain ⟨L, hL⟩ : ∃ L, L = V.heap.size := ⟨_, rfl⟩
    rw [← hL] at HL hLB ⊢
    clear hL
    generalize V.alloc (.cells #[.int .i64 0, .int .i64 0, .int .i64 0, .slice none 0 0, .slice none 0 0, .int .i64 0, .int .i64 0, .int .i64 0, .int .i64 0, .int .i64 0, .int .i64 0, .int .i64 0, .int .i64 0, .int .i64 0, .int .i64 0, .bool false, .bool false, .bool false, .int .i64 0, .slice none 0 0, .slice none 0 0, .slice none 0 0, .int .i64 0, .int .i64 0, .bool false] 44) = V2 at *
    obtain ⟨m1, m2⟩ := set_whole (cs' := (ls0 ah pt pz).cells) HL.out
    refine wpList_store_row rfl 44 _ _ rfl L (ls0 ah pt pz).cells rfl rfl 44 _ HL.out (by kernel_rfl) rfl (by unfold LS.cells; simp [Value.oneCell']) ?_
    have HO : Hid (OI ah pt pz L W0.heap.size W0 (V2.setRow L (ls0 ah pt pz).cells) (ls0 ah pt pz) (lk0 pz) 0) := ⟨⟨m1, lr0 _ _ _ _ _⟩, lp0 _ _ _, inv0 _ _ _ (by omega), Nat.le_refl _, Nat.le_refl _, HB.out.grown m2 HB.out.size (fun k e => by cases e; exact hLB)⟩
    clear m1 m2 HL HB
    generalize V2.setRow L (ls0 ah pt pz).cells = V3 at *
    go_wp2_with fail
    refine hK2.out _ _ ?_
    refine wp_seq_k (fun K3 hK3 => ?_)
    go_wp2_with fail
    refine hK3.out _ _ ?_
    -- the posts
    refine wp_seq_k (fun K4 hK4 => ?_)
    refine use_fr (N := 96) rfl ?_
    refine Tri.use (lp_6 ah pt pz L W0.heap.size n c ja f _ (lk0 pz) W0 V3 hLB rfl HR.out hn HO.out rfl (by omega) hah.2 (by omega) hpt.2 (by omega)) rfl ⟨rfl, rfl, rfl⟩ ?_
    rintro y1 W1 ⟨s3, s9, s1, l1, hO, hA⟩
    refine hK4.out _ _ ?_
    have HO1 : Hid (OI ah pt pz L W0.heap.size W0 W1 s1 l1 300) := ⟨hO.M, hO.P, hO.I, by have := hO.way; omega, by have := hO.old; omega, hO.blw⟩
    have HA := hid hA
    clear hO hA HO
    -- quiet
    refine wp_seq_k (fun K5 hK5 => ?_)
    refine Tri.use (lp_11 ah pt pz L W0.heap.size n c ja s1 l1 W0 W1 hLB HO1.out (by omega) hah.2 (by omega) hpt.2 (by omega)) rfl ⟨rfl, s3, s9⟩ ?_
    rintro y2 W2 ⟨t3, t9, s2, l2, k, hO, hE⟩
    refine hK5.out _ _ ?_
    have HO2 := hid hO
    have HE := hid hE
    clear hO hE HO1 s3 s9
    rw [fr96]
    simp only [t3, t9]
    clear t3 t9
    have c3 : W2.cell? ⟨L, 3, none⟩ = some (.slice s2.x.sa s2.x.sn s2.x.sc) := by rw [cell_of_row _ _ _ _ _ _ HO2.out.M.bx]; rfl
    have c4 : W2.cell? ⟨L, 4, none⟩ = some (.slice s2.x.qa s2.x.qn s2.x.qc) := by rw [cell_of_row _ _ _ _ _ _ HO2.out.M.bx]; rfl
    have c11 : W2.cell? ⟨L, 11, none⟩ = some (.int .i64 (s2.x.ha : Int)) := by rw [cell_of_row _ _ _ _ _ _ HO2.out.M.bx]; rfl
    have c21 : W2.cell? ⟨L, 21, none⟩ = some (.slice s2.da s2.dn s2.dc) := by rw [cell_of_row _ _ _ _ _ _ HO2.out.M.bx]; rfl
    have c22 : W2.cell? ⟨L, 22, none⟩ = some (.int .i64 (s2.A : Int)) := by rw [cell_of_row _ _ _ _ _ _ HO2.out.M.bx]; rfl
    have hha := HO2.out.P.H.ha
    by_cases hhl : l2.h.hl = true
    · rw [if_pos hhl] at hha
      rw [hha, show ((19 : Nat) : Int) = 19 from rfl] at c11
      have hA2 := HO2.out.I.hl hhl
      have hn0 : 0 < n := by
        rcases Nat.eq_zero_or_pos n with h | h
        · have h4 := HA.out h
          have h5 := HE.out.1
          omega
        · exact h
      have d1 : decide ((0 : Int) < (n : Int)) = true := decide_eq_true (by omega)
      have d2 : (0 : Int) < (n : Int) := by omega
      clear hha hA2 hhl c3 c4 c21 c22
      refine wp_seq_k (fun K6 hK6 => ?_)
      go_wp2_with fail
      refine hK6.out _ _ ?_
      go_wp2_with fail
      go_ret
      exact ⟨rfl, HO2.out.blw⟩
    · rw [if_neg hhl] at hha
      rw [hha, show ((0 : Nat) : Int) = 0 from rfl] at c11
      obtain ⟨e1, e2⟩ := HE.out
      rcases e2 with e2 | ⟨e2, e3, e4⟩
      · exact absurd e2 hhl
      · have q1 : s2.x.sn = 0 := by rw [HO2.out.P.H.sn]; omega
        have q2 : s2.x.qn = 0 := by rw [HO2.out.P.H.qn]; omega
        have q3 : s2.dn = l1.h.A := by rw [HO2.out.P.dn HO2.out.M.lr]; exact e2
        have q4 : s2.A = l1.h.A := by rw [HO2.out.P.A]; exact e1
        rw [q1] at c3
        rw [q2] at c4
        rw [q3] at c21
        rw [q4] at c22
        clear hha hhl e1 e2 e3 e4 q1 q2 q3 q4
        refine wp_seq_k (fun K6 hK6 => ?_)
        go_wp2_with fail
        refine hK6.out _ _ ?_
        go_wp2_with fail
        go_ret
        exact ⟨rfl, HO2.out.blw⟩
  · have d1 : decide ((300 : Int) < (n : Int)) = true := decide_eq_true (by omega)
    have d2 : decide (300 < n) = true := decide_eq_true (by omega)
    have d3 : 300 < n := by omega
    have d4 : (300 : Int) < (n : Int) := by omega
    go_enter Try.func4, Try.ntmps4
    refine wp_seq_k (fun K0 hK0 => ?_)
    go_wp2_with fail
    refine hK0.out _ _ ?_
    go_wp2_with fail
    go_ret
    exact ⟨rfl, Below.refl _ _⟩
end Go.Proofs.Ytkngoomkmbkenaa
