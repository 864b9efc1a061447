/- back: the bits of the way back. -/
import Derived.Test.YtaedanklpedmkaaStepC
import Derived.Test.YtaedanklpedmkaaRegionIn
namespace Go.Proofs.Ytaedanklpedmkaa
set_option linter.unusedVariables false
open Go.RowKit Go.Shelf
attribute [local go_sem] Oper.semAt_some

/-- a round of back: the state, the bits -/
def bkStep (n : Nat) (x : Nat × List Nat) (p : Nat × Nat) : Nat × List Nat := (x.1 / 2 + p.2 / 2 ^ x.1 % 2 * 32, if p.1 < n then x.2.set p.1 (x.1 % 2) else x.2)
def bk (n : Nat) (l : List (Nat × Nat)) : Nat × List Nat := l.foldl (bkStep n) (0, List.replicate n 0)
theorem bk_snoc (n : Nat) (l : List (Nat × Nat)) (p : Nat × Nat) : bk n (l ++ [p]) = bkStep n (bk n l) p := by simp [bk]
theorem bk_inv (n : Nat) (l : List (Nat × Nat)) : (bk n l).1 < 64 ∧ (bk n l).2.length = n := by
  suffices key : ∀ (l : List (Nat × Nat)) (x : Nat × List Nat), x.1 < 64 → x.2.length = n → (l.foldl (bkStep n) x).1 < 64 ∧ (l.foldl (bkStep n) x).2.length = n from key l _ (show 0 < 64 by decide) (by simp)
  intro l
  induction l with
  | nil => intro x h1 h2; exact ⟨h1, h2⟩
  | cons p l ih =>
    intro x h1 h2
    refine ih _ ?_ ?_
    · show x.1 / 2 + p.2 / 2 ^ x.1 % 2 * 32 < 64
      have := Nat.mod_lt (p.2 / 2 ^ x.1) (show 0 < 2 by decide)
      omega
    · show (if p.1 < n then x.2.set p.1 (x.1 % 2) else x.2).length = n
      split <;> simp [h2]
/-- the bits when j steps have been gone back -/
def boJ (K : Nat → Nat → Bool) (N n j : Nat) : List Nat := (List.range n).map fun i => if N - 1 - i < j then bck K N (N - 1 - i) % 2 else 0
theorem boJ_all (K : Nat → Nat → Bool) (N n : Nat) (h : 1 ≤ N) : boJ K N n N = got K N n := by
  refine List.map_congr_left fun i hi => ?_
  rw [if_pos (by omega)]
theorem boJ_zero (K : Nat → Nat → Bool) (N n : Nat) : boJ K N n 0 = List.replicate n 0 := by
  refine List.ext_getElem (by simp [boJ]) fun i h1 h2 => ?_
  simp [boJ]
theorem boJ_in (K : Nat → Nat → Bool) (N n j : Nat) (hj : j < N) (hn : n ≤ N) (h : N - 1 - j < n) : (boJ K N n j).set (N - 1 - j) (bck K N j % 2) = boJ K N n (j + 1) := by
  refine List.ext_getElem (by simp [boJ]) fun i h1 h2 => ?_
  have hi : i < n := by simpa [boJ] using h2
  rw [List.getElem_set]
  simp only [boJ, List.getElem_map, List.getElem_range]
  by_cases e : N - 1 - j = i
  · rw [if_pos e, if_pos (by omega), show N - 1 - i = j by omega]
  · rw [if_neg e]
    by_cases e2 : N - 1 - i < j
    · rw [if_pos e2, if_pos (by omega)]
    · rw [if_neg e2, if_neg (by omega)]
theorem boJ_out (K : Nat → Nat → Bool) (N n j : Nat) (hj : j < N) (hn : n ≤ N) (h : ¬ N - 1 - j < n) : boJ K N n j = boJ K N n (j + 1) := by
  refine List.map_congr_left fun i hi => ?_
  have : i < n := by simpa using hi
  by_cases e2 : N - 1 - i < j
  · rw [if_pos e2, if_pos (by omega)]
  · rw [if_neg e2, if_neg (by omega)]
theorem bk_back (K : Nat → Nat → Bool) (fl : List Nat) (N n : Nat) (hn : n ≤ N) (hK : ∀ i, i < N → nth fl i = frTo (K i) 64) : ∀ k, k ≤ N → bk n (backL fl N k) = (bck K N k, boJ K N n k)
  | 0, _ => by rw [boJ_zero]; rfl
  | k + 1, h => by
    have hb := bck_lt K N k
    rw [backL_succ, bk_snoc, bk_back K fl N n hn hK k (by omega)]
    unfold bkStep
    simp only
    rw [hK _ (by omega), frTo_bit _ _ _ hb]
    congr 1
    · rw [bck]
      split <;> rfl
    · by_cases e : N - 1 - k < n
      · rw [if_pos e, boJ_in K N n k (by omega) hn e]
      · rw [if_neg e, boJ_out K N n k (by omega) hn e]
/-- 'make([]byte, m)' -/
theorem run_mk25 (m : Nat) (hm : m ≤ 140737488355328) (u : World) : (Instr.makeSlice 25 (.int .i64 (m : Int)) (.int .i64 (m : Int))).run Try.prog u =
    .ok (.slice (some ⟨u.heap.size, 0, none⟩) m m) (u.alloc (.cells (madeCells #[.int .u8 0] m) 5)) := by
  obtain ⟨i0, hi, hz0, hz1, hz2⟩ := info_parts Try.info5
  have h := run_make (P := Try.prog) u 25 5 i0 (.int .u8 0) Try.underlying25 hi hz0 .i64 .i64 (m : Int) (m : Int) (by omega) (Int.le_refl _) (by rw [hz2]; omega) (by omega)
  simpa [hz1, Value.cells] using h
theorem made_cells25 (m : Nat) : madeCells #[.int .u8 0] m = (vb (List.replicate m 0)).toArray := by
  apply Array.toList_inj.1
  rw [toList_madeCells_one]
  simp [vb]
theorem or_32 : ∀ s : Nat, s < 64 → ∀ r : Nat, r < 2 → bits .or .i64 ((s : Int) / 2) ((r : Int) * 32) = ((s / 2 + r * 32 : Nat) : Int) := by decide +kernel
theorem kb_b {n₀ Bs : Nat} {w : World} (hn : n₀ ≤ w.heap.size) (hBs : Bs < w.heap.size) (W : World) (l : Nat) (o o' : Obj) (hl : w.heap.size ≤ l) (h : W.heap[l]? = some o) (h1 : o.isCells = false) (h2 : o.isWalk = false) : Kb n₀ Bs W (W.putObj l o') :=
  ⟨belowK_b hn W l o o' hl h h1 h2, fun v hv => (belowK_b (n₀ := Bs + 1) (w := w) (by omega) W l o o' hl h h1 h2).cell (p := ⟨Bs, 0, none⟩) (by simp) |>.trans hv⟩
theorem row_kept_o {W W' : World} {row : Option Nat} {k : Nat} {cs : Array Value} {e : TypeId} (h : W.heap[k]? = some (.cells cs e)) (hg : W.grownBy W' row) (hrow : ∀ r, row = some r → ∃ o : Obj, W.heap[r]? = some o ∧ o.isCells = false) : W'.heap[k]? = some (.cells cs e) :=
  (grownBy_keeps_cells hg hrow h rfl).trans h

theorem own_of_heap {w : World} {B g n : Nat} {xs : List Value} {e : TypeId} (h : w.heap[g]? = some (.cells xs.toArray e)) (hl : xs.length = n) (hB : B ≤ g) (hn : n ≤ maxLen) : w.ownsRow B e 1 (.slice (some ⟨g, 0, none⟩) n n) n xs :=
  ⟨by omega, .inr ⟨g, n, xs.toArray, rfl, hB, h, Nat.le_refl _, hn, by simp [hl], by rw [Nat.mul_one, List.toList_toArray, ← hl, List.take_length]⟩⟩
/-- what a round finds: the blocks of n, of the bits, of 'out', of the state -/
structure BkI (w : World) (n H : Nat) (pre : List (Nat × Nat)) (W : World) : Prop where
  n_ : W.heap[H]? = some (.cells #[.int .i64 (n : Int)] 3)
  bits_ : W.heap[H + 1]? = some (.cells (vb (bk n pre).2).toArray 5)
  out_ : W.heap[H + 2]? = some (.cells #[.slice (some ⟨H + 1, 0, none⟩) n n] 25)
  s_ : W.heap[H + 3]? = some (.cells #[.int .i64 ((bk n pre).1 : Nat)] 3)
theorem BkI.from {w : World} {n H B : Nat} {α : Type} {f : α → List (Nat × Nat)} : OwnFrom B (fun (pre : α) W => BkI w n H (f pre) W) :=
  Own.from (fun s A B row hs hg hr => ⟨row_kept_o hs.n_ hg hr, row_kept_o hs.bits_ hg hr, row_kept_o hs.out_ hg hr, row_kept_o hs.s_ hg hr⟩) _

set_option maxRecDepth 100000 in
set_option maxHeartbeats 4000000 in
theorem back_ok (T n : Nat) (fl cost order : List Nat) (fa : Option Addr) (fc : Nat) (K : Nat → Nat → Bool) (w : World) (hT : w.heap[T]? = some (.cells (tc cost order (.slice fa fl.length fc)).toArray 53)) (hcl : cost.length = 64) (hol : order.length = 64)
    (hI : Rd w fa fl.length fc (vu fl)) (hL : fl.length = n + 6) (hn : n ≤ 16384) (hK : ∀ i, i < n + 6 → nth fl i = frTo (K i) 64) :
    Calls Try.prog 19 #[.pointer (some ⟨T, 0, none⟩), .int .i64 (n : Int)] w fun e w' => ∃ ao cp, e = .returned (.slice ao n cp) ∧ w'.ownsRow w.heap.size 5 1 (.slice ao n cp) n (vb (got K (n + 6) n)) ∧ Below w.heap.size w w' := by
  have c1 : w.cell? ⟨T, 128, none⟩ = some (.slice fa fl.length fc) := by rw [cell_of_row _ _ _ _ _ _ hT, List.getElem?_toArray, tc_from hcl hol]
  have hTl := row_lt hT
  have HT := hid hT
  have HL := hid hL
  have HK := hid hK
  have hfu : AllU fl := fun x hx => by
    obtain ⟨i, hi, rfl⟩ := List.getElem_of_mem hx
    have h := hK i (by omega)
    rw [nth_get hi] at h
    rw [h]
    exact frTo_lt _ 64
  clear hT hL hK
  have hmk := run_mk25 n (by omega)
  have Hmm := hid (made_cells25 n)
  generalize madeCells #[.int .u8 0] n = M at *
  obtain ⟨H, hH⟩ : ∃ H, H = w.heap.size := ⟨_, rfl⟩
  have b1 := below_alloc w (.cells #[.int .i64 (n : Int)] 3)
  have b2 := below_alloc (w.alloc (.cells #[.int .i64 (n : Int)] 3)) (.cells M 5)
  have b3 := below_alloc ((w.alloc (.cells #[.int .i64 (n : Int)] 3)).alloc (.cells M 5)) (.cells #[.slice (some ⟨w.heap.size + 1, 0, none⟩) n n] 25)
  have b4 := below_alloc (((w.alloc (.cells #[.int .i64 (n : Int)] 3)).alloc (.cells M 5)).alloc (.cells #[.slice (some ⟨w.heap.size + 1, 0, none⟩) n n] 25)) (.cells #[.int .i64 0] 3)
  have r1 := row_below (row_below (row_below (heap_alloc_new w (.cells #[.int .i64 (n : Int)] 3)) b2) b3) b4
  have r2 := row_below (row_below (heap_alloc_new (w.alloc (.cells #[.int .i64 (n : Int)] 3)) (.cells M 5)) b3) b4
  have r3 := row_below (heap_alloc_new ((w.alloc (.cells #[.int .i64 (n : Int)] 3)).alloc (.cells M 5)) (.cells #[.slice (some ⟨w.heap.size + 1, 0, none⟩) n n] 25)) b4
  have r4 := heap_alloc_new (((w.alloc (.cells #[.int .i64 (n : Int)] 3)).alloc (.cells M 5)).alloc (.cells #[.slice (some ⟨w.heap.size + 1, 0, none⟩) n n] 25)) (.cells #[.int .i64 0] 3)
  simp only [World.size_alloc] at r2 r3 r4
  have b14 := b1.trans ((b2.trans ((b3.trans (b4.mono b3.size)).mono b2.size)).mono b1.size)
  have c2 := (b14.cell (p := ⟨T, 128, none⟩) hTl).trans c1
  have HB := hid b14
  have Hr := hid (And.intro r1 (And.intro r2 (And.intro r3 r4)))
  have hsz : ((((w.alloc (.cells #[.int .i64 (n : Int)] 3)).alloc (.cells M 5)).alloc (.cells #[.slice (some ⟨w.heap.size + 1, 0, none⟩) n n] 25)).alloc (.cells #[.int .i64 0] 3)).heap.size = w.heap.size + 1 + 1 + 1 + 1 := by simp only [World.size_alloc]
  have Hsz := hid hsz
  clear b1 b2 b3 b4 r1 r2 r3 r4 b14 hsz hH H
  refine (callsIn_wide (n := 8)).1 ?_
  have hro : Fence.wide.round = none := rfl
  have h1 : 1 ≤ 8 := by decide
  refine callsIn_of_wp_marks Try.func19 rfl trivial ?_ hro
  simp only [Try.ntmps19, List.size_toArray, List.length_cons, List.length_nil, Nat.reduceAdd, Nat.reduceSub, Array.replicate_succ, Array.replicate_zero, List.push_toArray, List.append_toArray, List.nil_append, List.cons_append]
  gi_wp2_with fail
  refine ⟨trivial, ?_⟩
  generalize ((((w.alloc (.cells #[.int .i64 (n : Int)] 3)).alloc (.cells M 5)).alloc (.cells #[.slice (some ⟨w.heap.size + 1, 0, none⟩) n n] 25)).alloc (.cells #[.int .i64 0] 3)) = V at *
  refine (backward19 Fence.wide (8 - 1) trivial rfl _ _ _ _).mono ?_
  rintro e w' ⟨rfl, rfl⟩
  gi_wp2_with fail
  have bN := Boxed.new V 51 (.slice fa fl.length fc)
  have hBs : V.heap.size < (V.alloc (.cells #[.slice fa fl.length fc] 51)).heap.size := by simp
  have bV := below_alloc V (.cells #[.slice fa fl.length fc] 51)
  have HBV := hid (HB.out.trans (bV.mono HB.out.size))
  obtain ⟨Bs, hBse⟩ : ∃ Bs, Bs = V.heap.size := ⟨_, rfl⟩
  rw [← hBse] at hBs bN ⊢
  have Hr := hid (And.intro (row_below Hr.out.1 bV) (And.intro (row_below Hr.out.2.1 bV) (And.intro (row_below Hr.out.2.2.1 bV) (row_below Hr.out.2.2.2 bV))))
  have hVb : Bs = w.heap.size + 1 + 1 + 1 + 1 := by rw [hBse, Hsz.out]
  have hVb1 : w.heap.size + 1 + 1 + 1 < Bs := by omega
  have HVb := hid hVb
  clear hVb
  have hlow : 0 < fl.length → ∀ b off, fa = some ⟨b, off, none⟩ → b < w.heap.size := fun h0 b off h => hI.block_lt h0 h
  clear bV hBse c2 c1 hTl HT hmk Hsz HB
  generalize V.alloc (.cells #[.slice fa fl.length fc] 51) = U at *
  refine wpIn_rangeFunc_ownG hro h1 (gf := 26) (lb := #[.pointer (some ⟨Bs, 0, none⟩)]) rfl trivial (enters_of Try.func26 (by kernel_rfl) rfl)
    (stops22 Fence.wide (8 - 1) trivial hro (by omega) Bs w.heap.size fa fl.length fc fl hfu (by have := HL.out; omega) U hBs (by omega) bN.cell (hI.below HBV.out) hlow) (fun h k => h.trans k) (kb_b (by omega) hBs) (Below.refl _ _) (fun _ => rfl)
    (fun pre W => BkI w n w.heap.size (pre.map (·.1)) W ∧ Below w.heap.size w W)
    (fun _ _ _ => False)
    (OwnFrom.and BkI.from (ownFrom_below (Nat.le_refl _) (by omega)))
    (fun _ _ _ _ _ hs _ _ => hs)
    ⟨⟨Hr.out.1, Hmm.out ▸ Hr.out.2.1, Hr.out.2.2.1, Hr.out.2.2.2⟩, HBV.out⟩
    (fun p => { tmps := #[.pointer (some ⟨T, 0, none⟩), .int .i64 (n : Int), undef, .pointer (some ⟨w.heap.size, 0, none⟩), .slice none 0 0, .pointer (some ⟨w.heap.size + 1 + 1, 0, none⟩), .pointer (some ⟨w.heap.size + 1 + 1 + 1, 0, none⟩), .int .i64 (p.1.1 : Int), .int .u64 (p.1.2 : Int), .int .i64 (n : Int), .slice (some ⟨w.heap.size + 1, 0, none⟩) n n, .pointer (some ⟨T, 0, none⟩), .pointer (some ⟨T, 0, none⟩), .pointer (some ⟨T, 128, none⟩), .slice fa fl.length fc, .func (.func 26) #[] #[.pointer (some ⟨Bs, 0, none⟩)], .int .i64 (p.1.1 : Int), .int .u64 (p.1.2 : Int), undef, undef, undef, undef, undef, undef, undef, undef, undef, undef, undef, undef, undef, undef, undef, undef, undef, undef, undef], defers := [] }) ?assign ?body ?done ?stop
  case assign =>
    intro l p W K hK
    dsimp only [encIb]
    gi_wp2
    exact hK
  case body =>
    rintro l pre p W ⟨hI, hB⟩ _
    have hp := p.2.2
    have hs := bk_inv n (pre.map (·.1))
    have e2 := bk_snoc n (pre.map (·.1)) p.1
    rw [show pre.map (·.1) ++ [p.1] = (pre ++ [p]).map (·.1) by simp] at e2
    unfold bkStep at e2
    have hbn := hI.n_
    have hbb := hI.bits_
    have hbo := hI.out_
    have hbs := hI.s_
    generalize bk n (pre.map (·.1)) = x at *
    obtain ⟨s, o⟩ := x
    dsimp only at hs hbb hbs e2
    obtain ⟨hs, ho⟩ := hs
    have HE2 := hid e2
    have HB := hid hB
    have Hp := hid p.2.1
    clear e2 hI hB
    generalize hpi : p.1.1 = pi at *
    generalize hpf : p.1.2 = pf at *
    clear hpi hpf
    have q1 := frozen_row hbb pi
    have q2 := and_one s hs
    obtain ⟨q, hq⟩ : ∃ q, q = pf / 2 ^ s := ⟨_, rfl⟩
    have hq64 : q < 2 ^ 64 := by rw [hq]; exact Nat.lt_of_le_of_lt (Nat.div_le_self _ _) hp
    have q3 : (pf : Int) / (2 : Int) ^ s = (q : Int) := by rw [hq]; simp
    have q4 : bits .and .u64 (q : Int) 1 = ((q % 2 : Nat) : Int) := by
      have h := u64_and q 1 hq64 (by decide)
      rw [Nat.and_one_is_mod] at h
      exact h
    have q5 := or_32 s hs (q % 2) (Nat.mod_lt _ (by decide))
    have q6 : q % 2 < 2 := Nat.mod_lt _ (by decide)
    have q7 : IntKind.i64.wrap ((q % 2 : Nat) : Int) = ((q % 2 : Nat) : Int) := by rw [IntWalk.i64_in _ (by omega)]
    have q8 : IntKind.i64.wrap (((q % 2 : Nat) : Int) * 32) = ((q % 2 : Nat) : Int) * 32 := by rw [IntWalk.i64_in _ (by omega)]
    rw [← hq] at HE2
    clear hq
    generalize q % 2 = r at *
    obtain ⟨s9, hs9⟩ : ∃ s9, s9 = s / 2 + r * 32 := ⟨_, rfl⟩
    rw [← hs9] at q5 HE2
    clear hs9
    have c0 : W.cell? ⟨w.heap.size, 0, none⟩ = some (.int .i64 (n : Int)) := by rw [cell_of_row _ _ _ _ _ _ hbn]; rfl
    have c2 : W.cell? ⟨w.heap.size + 1 + 1, 0, none⟩ = some (.slice (some ⟨w.heap.size + 1, 0, none⟩) n n) := by rw [cell_of_row _ _ _ _ _ _ hbo]; rfl
    have c3 : W.cell? ⟨w.heap.size + 1 + 1 + 1, 0, none⟩ = some (.int .i64 (s : Int)) := by rw [cell_of_row _ _ _ _ _ _ hbs]; rfl
    have Hn := hid hbn
    have Hb := hid hbb
    have Ho := hid hbo
    have Hs := hid hbs
    clear hbn hbb hbo hbs
    have hlow1 : w.heap.size ≤ W.heap.size := by have := row_lt Hn.out; omega
    by_cases hlt : pi < n
    · have c1 : W.cell? ⟨w.heap.size + 1, pi, none⟩ = some (.int .u8 (nth o pi : Nat)) := by
        rw [cell_of_row _ _ _ _ _ _ Hb.out, List.getElem?_toArray, vb_get _ _ (by omega)]
      obtain ⟨R1, g1⟩ := set_row (cs' := (vb (o.set pi (s % 2))).toArray) Hb.out pi (.int .u8 ((s % 2 : Nat) : Int)) (by rw [List.setIfInBounds_toArray, vb_set])
      have R1 := hid R1
      have Rn := hid (row_grown Hn.out g1 (by omega))
      have Ro := hid (row_grown Ho.out g1 (by omega))
      have Rs := hid (row_grown Hs.out g1 (by omega))
      have hs2 : s % 2 < 2 := Nat.mod_lt _ (by decide)
      rw [if_pos hlt] at HE2
      generalize s % 2 = s2 at *
      have c3' : (W.setCell ⟨w.heap.size + 1, pi, none⟩ (.int .u8 (s2 : Int))).cell? ⟨w.heap.size + 1 + 1 + 1, 0, none⟩ = some (.int .i64 (s : Int)) := by rw [cell_of_row _ _ _ _ _ _ Rs.out]; rfl
      have ht : Hid (Fence.wide.round = none) := rfl
      gi_wp2_with fail
      have KO := KeepsOthers.setCell W ⟨w.heap.size + 1, pi, none⟩ (.int .u8 (s2 : Int))
      have KB : Kb w.heap.size Bs W (W.setCell ⟨w.heap.size + 1, pi, none⟩ (.int .u8 (s2 : Int))) := ⟨(Below.refl _ _).setCell (by simp) _, fun v hv => (World.cell?_setCell_other _ _ _ _ (by simp)).trans hv⟩
      have HB1 := hid (HB.out.setCell (p := ⟨w.heap.size + 1, pi, none⟩) (by simp) (.int .u8 (s2 : Int)))
      have Rb := hid R1.out
      clear R1 g1 c1 c0 c2 c3 c3' Hn Hb Ho Hs HB
      generalize W.setCell ⟨w.heap.size + 1, pi, none⟩ (.int .u8 (s2 : Int)) = W1 at *
      refine wpIn_region_can 9 [] [0, 1, 2, 3, 4, 5, 6, 7, 8] (Below W1.heap.size) (fun _ => Below.refl _ _) (fun _ _ _ h k => h.trans k) (by kernel_rfl) (by kernel_rfl) (by kernel_rfl) ?_
      have Rs1 : W1.drew.heap[w.heap.size + 1 + 1 + 1]? = some (.cells #[.int .i64 (s : Int)] 3) := Rs.out
      have c9 : ∀ w', Below W1.heap.size W1.drew w' → w'.cell? ⟨w.heap.size + 1 + 1 + 1, 0, none⟩ = some (.int .i64 (s : Int)) := fun w' hb => by
        rw [cell_of_row _ _ _ _ _ _ (row_below Rs1 hb)]; rfl
      have KB := KB.trans (⟨(Below.refl _ W1).drew, fun _ h => h⟩ : Kb w.heap.size Bs W1 W1.drew)
      have KO := KO.trans (KeepsOthers.drew W1)
      have HB1 := hid (HB1.out.trans (Below.refl _ W1).drew)
      have Rn := hid (show W1.drew.heap[_]? = _ from Rn.out)
      have Rb := hid (show W1.drew.heap[_]? = _ from Rb.out)
      have Ro := hid (show W1.drew.heap[_]? = _ from Ro.out)
      have hsz : W1.drew.heap.size = W1.heap.size := rfl
      have c10 : W1.drew.cell? ⟨w.heap.size + 1 + 1 + 1, 0, none⟩ = some (.int .i64 (s : Int)) := by rw [cell_of_row _ _ _ _ _ _ Rs1]; rfl
      have c11 : W1.drew.frozen? ⟨w.heap.size + 1 + 1 + 1, 0, none⟩ = false := frozen_row Rs1 0
      have HRs := hid Rs1
      clear Rs Rs1
      simp only [List.map_cons, List.map_nil, List.contains_nil, List.getD_cons_zero, List.getD_cons_succ]
      generalize W1.drew = W2 at *
      repeat (refine wpL_do rfl (fun w' hw' => (by go_simp; rfl)) ?_; simp only [Act.put, List.setIfInBounds_toArray, List.set_cons_succ, List.set_cons_zero])
      refine wpL_nil ?_
      obtain ⟨R9, g9⟩ := set_row (cs' := #[.int .i64 (s9 : Int)]) HRs.out 0 (.int .i64 (s9 : Int)) rfl
      have R9 := hid R9
      have KO := KO.trans (KeepsOthers.setCell W2 ⟨w.heap.size + 1 + 1 + 1, 0, none⟩ (.int .i64 (s9 : Int)))
      have KB := KB.trans (⟨(Below.refl _ _).setCell (by show w.heap.size ≤ w.heap.size + 1 + 1 + 1; omega) _, fun v hv => (World.cell?_setCell_other _ _ _ _ (by simp)).trans hv⟩ : Kb w.heap.size Bs W2 (W2.setCell ⟨w.heap.size + 1 + 1 + 1, 0, none⟩ (.int .i64 (s9 : Int))))
      have HB1 := hid (HB1.out.setCell (p := ⟨w.heap.size + 1 + 1 + 1, 0, none⟩) (by show w.heap.size ≤ w.heap.size + 1 + 1 + 1; omega) (.int .i64 (s9 : Int)))
      have Rn := hid (row_grown Rn.out g9 (by omega))
      have Rb := hid (row_grown Rb.out g9 (by omega))
      have Ro := hid (row_grown Ro.out g9 (by omega))
      clear g9 HRs c9
      have HKO := hid (And.intro KO KB)
      clear KO KB q5 q7 q8
      clear q2 q3 q4
      go_wp2_with fail
      exact ⟨HKO.out.1.from _, HKO.out.2, ⟨Rn.out, by rw [HE2.out]; exact Rb.out, Ro.out, by rw [HE2.out]; exact R9.out⟩, HB1.out⟩
    · rw [if_neg hlt] at HE2
      gi_wp2_with fail
      obtain ⟨W1, hW1⟩ : ∃ W1, W1 = W := ⟨_, rfl⟩
      have KO : KeepsOthers W W1 := by rw [hW1]; exact KeepsOthers.refl _
      have KB : Kb w.heap.size Bs W W1 := by rw [hW1]; exact Kb.refl _ _ _
      have HB1 := hid HB.out
      have Rb := hid Hb.out
      have Rs := hid Hs.out
      have Rn := hid Hn.out
      have Ro := hid Ho.out
      rw [← hW1] at HB1 Rb Rs Rn Ro
      have hW1' := hid hW1
      clear hW1
      rw [← hW1'.out]
      refine wpIn_region_can 9 [] [0, 1, 2, 3, 4, 5, 6, 7, 8] (Below W1.heap.size) (fun _ => Below.refl _ _) (fun _ _ _ h k => h.trans k) (by kernel_rfl) (by kernel_rfl) (by kernel_rfl) ?_
      have Rs1 : W1.drew.heap[w.heap.size + 1 + 1 + 1]? = some (.cells #[.int .i64 (s : Int)] 3) := Rs.out
      have c9 : ∀ w', Below W1.heap.size W1.drew w' → w'.cell? ⟨w.heap.size + 1 + 1 + 1, 0, none⟩ = some (.int .i64 (s : Int)) := fun w' hb => by
        rw [cell_of_row _ _ _ _ _ _ (row_below Rs1 hb)]; rfl
      have KB := KB.trans (⟨(Below.refl _ W1).drew, fun _ h => h⟩ : Kb w.heap.size Bs W1 W1.drew)
      have KO := KO.trans (KeepsOthers.drew W1)
      have HB1 := hid (HB1.out.trans (Below.refl _ W1).drew)
      have Rn := hid (show W1.drew.heap[_]? = _ from Rn.out)
      have Rb := hid (show W1.drew.heap[_]? = _ from Rb.out)
      have Ro := hid (show W1.drew.heap[_]? = _ from Ro.out)
      have hsz : W1.drew.heap.size = W1.heap.size := rfl
      have c10 : W1.drew.cell? ⟨w.heap.size + 1 + 1 + 1, 0, none⟩ = some (.int .i64 (s : Int)) := by rw [cell_of_row _ _ _ _ _ _ Rs1]; rfl
      have c11 : W1.drew.frozen? ⟨w.heap.size + 1 + 1 + 1, 0, none⟩ = false := frozen_row Rs1 0
      have HRs := hid Rs1
      clear Rs Rs1
      simp only [List.map_cons, List.map_nil, List.contains_nil, List.getD_cons_zero, List.getD_cons_succ]
      generalize W1.drew = W2 at *
      repeat (refine wpL_do rfl (fun w' hw' => (by go_simp; rfl)) ?_; simp only [Act.put, List.setIfInBounds_toArray, List.set_cons_succ, List.set_cons_zero])
      refine wpL_nil ?_
      obtain ⟨R9, g9⟩ := set_row (cs' := #[.int .i64 (s9 : Int)]) HRs.out 0 (.int .i64 (s9 : Int)) rfl
      have R9 := hid R9
      have KO := KO.trans (KeepsOthers.setCell W2 ⟨w.heap.size + 1 + 1 + 1, 0, none⟩ (.int .i64 (s9 : Int)))
      have KB := KB.trans (⟨(Below.refl _ _).setCell (by show w.heap.size ≤ w.heap.size + 1 + 1 + 1; omega) _, fun v hv => (World.cell?_setCell_other _ _ _ _ (by simp)).trans hv⟩ : Kb w.heap.size Bs W2 (W2.setCell ⟨w.heap.size + 1 + 1 + 1, 0, none⟩ (.int .i64 (s9 : Int))))
      have HB1 := hid (HB1.out.setCell (p := ⟨w.heap.size + 1 + 1 + 1, 0, none⟩) (by show w.heap.size ≤ w.heap.size + 1 + 1 + 1; omega) (.int .i64 (s9 : Int)))
      have Rn := hid (row_grown Rn.out g9 (by omega))
      have Rb := hid (row_grown Rb.out g9 (by omega))
      have Ro := hid (row_grown Ro.out g9 (by omega))
      clear g9 HRs c9
      have HKO := hid (And.intro KO KB)
      clear KO KB q5 q7 q8
      clear q2 q3 q4
      go_wp2_with fail
      exact ⟨HKO.out.1.from _, HKO.out.2, ⟨Rn.out, by rw [HE2.out]; exact Rb.out, Ro.out, by rw [HE2.out]; exact R9.out⟩, HB1.out⟩
  case done =>
    rintro D ys W hD hys ⟨hI, hB⟩ hK
    have hv : bk n (ys.map (·.1)) = (bck K (n + 6) (n + 6), boJ K (n + 6) n (n + 6)) := by
      have h1 : ys.map (·.1) = backL fl fl.length fl.length := hys
      rw [h1, HL.out]
      exact bk_back K fl (n + 6) n (by omega) HK.out _ (Nat.le_refl _)
    have hbits := hI.bits_
    rw [hv, boJ_all _ _ _ (by omega)] at hbits
    have hc : W.cell? ⟨w.heap.size + 1 + 1, 0, none⟩ = some (.slice (some ⟨w.heap.size + 1, 0, none⟩) n n) := by rw [cell_of_row _ _ _ _ _ _ hI.out_]; rfl
    have Hbits := hid hbits
    have HB := hid hB
    clear hbits hB hI hv hys
    gi_wp2
    have hKb := belowK_b (n₀ := Bs) (w := U) (by omega) W D (.deferred (some [])) (.deferred none) hD hK rfl rfl
    have hbig : n ≤ maxLen := by unfold maxLen; omega
    refine ⟨by simp, .inl ⟨_, _, rfl, run_takeDeferred hK, ?_⟩⟩
    exact ⟨_, results_tmp rfl _ _ _, _, n, rfl, own_of_heap ((hKb.block _ (by omega)).trans Hbits.out) (by rw [vb_len]; simp [got]) (by omega) hbig, HB.out.trans (hKb.mono (by omega))⟩
  case stop =>
    rintro D c pre W _ _ h _
    exact h.elim
end Go.Proofs.Ytaedanklpedmkaa
