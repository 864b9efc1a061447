/- shifted: data through a register that divides. -/
import Derived.Test.YtendgihkjibbaaaProdS
import Derived.Test.YtendgihkjibbaaaRow
import Derived.Test.YtendgihkjibbaaaRowCells
import Derived.Test.YtendgihkjibbaaaAtDst
import Derived.Laws.CopyOwn
namespace Go.Proofs.Ytendgihkjibbaaa
set_option linter.unusedVariables false
open Go.RowKit

/-- the register, one place on -/
def shl (r : List Nat) : List Nat := r.tail ++ [0]
/-- what one byte does to the register -/
def reg (g r : List Nat) (b : Nat) : List Nat := addTo (shl r) g (b ^^^ nth r 0) 0 g.length
def regs (g r ds : List Nat) : List Nat := ds.foldl (reg g) r
theorem shl_len (r : List Nat) (h : 0 < r.length) : (shl r).length = r.length := by simp [shl]; omega
theorem reg_len (g r : List Nat) (b : Nat) (h : 0 < r.length) : (reg g r b).length = r.length := by rw [reg, addTo_len, shl_len r h]
theorem shl_all {r : List Nat} (h : AllB r) : AllB (shl r) := fun y hy => by
  rcases List.mem_append.1 hy with h1 | h1
  · exact h y (List.mem_of_mem_tail h1)
  · simp at h1; omega
theorem reg_all {g r : List Nat} {b : Nat} (hr : AllB r) (hb : b < 256) : AllB (reg g r b) := addTo_all (shl_all hr) (Gf.xor_lt hb (nth_lt hr 0)) _
theorem regs_snoc (g r ds : List Nat) (d : Nat) : regs g r (ds ++ [d]) = reg g (regs g r ds) d := by simp [regs]
theorem regs_len (g r ds : List Nat) (h : 0 < r.length) : (regs g r ds).length = r.length := by
  induction ds generalizing r with
  | nil => rfl
  | cons d ds ih => rw [regs, List.foldl_cons]; exact (ih _ (by rw [reg_len g r d h]; exact h)).trans (reg_len g r d h)
theorem regs_all {g r ds : List Nat} (hr : AllB r) (hd : AllB ds) : AllB (regs g r ds) := by
  induction ds generalizing r with
  | nil => exact hr
  | cons d ds ih => exact ih (reg_all hr (hd d List.mem_cons_self)) (fun y hy => hd y (List.mem_cons_of_mem _ hy))

theorem splice_shl (r : List Nat) (n : Nat) (hl : r.length = n) (hn : 0 < n) : splice (vb r) 0 (vb r.tail) = vb (r.tail ++ [nth r (n - 1)]) := by
  subst hl
  cases r with
  | nil => simp at hn
  | cons x l =>
    have h1 : (x :: l).drop l.length = [nth (x :: l) l.length] := by
      rw [List.drop_eq_getElem_cons (by simp)]
      simp [nth]
    unfold splice
    rw [List.take_zero, List.nil_append, vb_len, Nat.zero_add, vb_append]
    congr 1
    rw [show (x :: l).length - 1 = l.length by simp, show (x :: l).tail.length = l.length by simp]
    show (vb (x :: l)).drop l.length = _
    rw [show (vb (x :: l)).drop l.length = vb ((x :: l).drop l.length) by simp [vb], h1]

theorem snoc_set (l : List Nat) (n x y : Nat) (h : l.length = n) : (l ++ [x]).set n y = l ++ [y] := by
  subst h; simp

theorem vb_arr_set (r : List Nat) (i x : Nat) : (vb r).toArray.setIfInBounds i (.int .u8 (x : Int)) = (vb (r.set i x)).toArray := by
  rw [List.setIfInBounds_toArray, vb_set]

set_option maxRecDepth 100000 in
theorem shifted_ok (da ga : Option Addr) (dn dc n gc : Nat) (ds gs : List Nat) (w : World) (hd : Rd w da dn dc (vb ds)) (hdb : AllB ds) (hg : Rd w ga n gc (vb gs)) (hgb : AllB gs)
    (hn1 : 1 ≤ n) (hn : n ≤ 64) (hdn : dn ≤ 100000) :
    Calls Try.prog 18 #[.slice da dn dc, .slice ga n gc] w fun e w' => ∃ ao c, e = .returned (.slice ao (dn + n) c) ∧
      w'.ownsRow w.heap.size 5 1 (.slice ao (dn + n) c) (dn + n) (vb (ds ++ regs gs (List.replicate n 0) ds)) ∧ Below w.heap.size w w' := by
  have hgl : gs.length = n := by have := hg.len; rwa [vb_len] at this
  have hdl : ds.length = dn := by have := hd.len; rwa [vb_len] at this
  have Hgl := hid hgl
  have Hdl := hid hdl
  clear hgl hdl
  have k1 := run_mkB n (by omega)
  obtain ⟨B, hB⟩ : ∃ B, B = w.heap.size := ⟨_, rfl⟩
  have HB := hid hB
  clear hB
  have B0 : Below B w (w.alloc (.cells (madeCells #[.int .u8 0] n) 5)) := by rw [HB.out]; exact below_alloc _ _
  have h0 : (w.alloc (.cells (madeCells #[.int .u8 0] n) 5)).heap[B]? = some (.cells (vb (List.replicate n 0)).toArray 5) := by
    rw [HB.out, ← made_cellsB]; exact heap_alloc_new w _
  have nd : ∀ b off, 0 < dn → da = some ⟨b, off, none⟩ → b ≠ B := fun b off h0 h => by have := hd.block_lt h0 h; have := HB.out; omega
  have ng : ∀ b off, 0 < n → ga = some ⟨b, off, none⟩ → b ≠ B := fun b off h0 h => by have := hg.block_lt h0 h; have := HB.out; omega
  have toB : ∀ X, Below B w X → Below w.heap.size w X := fun X h => by rw [HB.out] at h; exact h
  go_enter Try.func18, Try.ntmps18
  go_wp2_with fail
  rw [← HB.out]
  generalize w.alloc (.cells (madeCells #[.int .u8 0] n) 5) = W0 at *
  go_loopw [16] (fun i wr => ∃ m : Nat, m ≤ dn ∧ i = .int .i64 m ∧ wr.heap[B]? = some (.cells (vb (regs gs (List.replicate n 0) (ds.take m))).toArray 5) ∧ Below B w wr) (fun i _ => dn - (intOf i).toNat)
  case atStart => exact ⟨0, by omega, rfl, h0, B0⟩
  case round =>
    obtain ⟨m, hm, rfl, hR, hG⟩ := hrel
    by_cases hlt : m < dn
    · have hrl := regs_len gs (List.replicate n 0) (ds.take m) (by simp; omega)
      rw [List.length_replicate] at hrl
      have hrb := regs_all (g := gs) (AllB.replicate n) (hdb.take m)
      have hnx : Hid (regs gs (List.replicate n 0) (ds.take (m + 1)) = reg gs (regs gs (List.replicate n 0) (ds.take m)) (nth ds m)) := by
        rw [← regs_snoc, take_snocN ds m (by rw [Hdl.out]; exact hlt)]; rfl
      generalize regs gs (List.replicate n 0) (ds.take m) = r at *
      generalize hr' : regs gs (List.replicate n 0) (ds.take (m + 1)) = r' at *
      have Hr' := hid hr'
      clear hr'
      obtain ⟨b, off, rfl, hbl, hcell⟩ := (hd.below (toB _ hG)).cell m hlt
      have c0 := cell_row8 hR 0 (by omega)
      have hd256 := nth_lt hdb m
      have hx256 := nth_lt hrb 0
      have e1 := u8_xor_nat (nth ds m) (nth r 0) (by omega) (by omega)
      have hk := Gf.xor_lt hd256 hx256
      have Hsl := hid (shl_len r (by omega))
      rw [hrl] at Hsl
      have Hsb := shl_all hrb
      have hsp := hid (splice_shl r n hrl (by omega))
      have hst := hid (snoc_set r.tail (n - 1) (nth r (n - 1)) 0 (by rw [List.length_tail, hrl]))
      have htl : (vb r.tail).length = n - 1 := by rw [vb_len, List.length_tail, hrl]
      have hlast : nth (r.tail ++ [nth r (n - 1)]) (n - 1) = nth r (n - 1) := by
        rw [nth, List.getD_eq_getElem?_getD, List.getElem?_append_right (by rw [List.length_tail, hrl]; omega), List.length_tail, hrl, Nat.sub_self]
        rfl
      have hll : (r.tail ++ [nth r (n - 1)]).length = n := by rw [List.length_append, List.length_tail, hrl]; simp; omega
      have hrd := (Rd.ofOwn (own_of_heap (B := B) hR (by rw [vb_len, hrl]) (Nat.le_refl _) (by unfold maxLen; omega)))
      have hnz : Hid (r' = addTo (shl r) gs (nth ds m ^^^ nth r 0) 0 n) := by rw [← Hgl.out]; exact hnx.out
      clear hnx
      have hlast := hid hlast
      have HHl := hid hll
      have hll : 0 < (r.tail ++ [nth r (n - 1)]).length := by omega
      generalize hk' : nth ds m ^^^ nth r 0 = k at *
      clear hk'
      generalize nth r 0 = x0 at *
      generalize nth ds m = d at *
      rcases Nat.lt_or_ge 1 n with hn2 | hn2
      case' inr =>
        have hn3 : (n = 1) = True := by simp; omega
      case' inl => have hn3 : ¬n = 1 := by omega
      all_goals
        go_wp2_with (with_reducible refine at_dst 28 ?_)
        unfold Hid
        refine wpList_copy_splice rfl _ _ 22 22 rfl 5 Try.underlying22 (by kernel_rfl) (some ⟨B, 0, none⟩) _ n n _ _ rfl rfl B 0 (vb r) 5 hR (vb r.tail) (by rw [htl]; show _ = min _ n; omega) (fun h0 => ?cp) (by rw [htl, vb_len, hrl]; omega) (vb_oneCell _) B wr (Below.refl _ _) (Nat.le_refl _) ?_
        case cp =>
          rw [htl] at h0
          first
            | omega
            | refine ⟨rfl, _, rfl, fun j v hj => ?_⟩
              have hjl := (List.getElem?_eq_some_iff.1 hj).1
              rw [htl] at hjl
              rw [Addr.add_lit, cell_row8 hR (1 + j) (by omega), ← vb_get _ _ (by omega), ← hj]
              unfold vb
              rw [List.getElem?_map, List.getElem?_map, List.getElem?_tail, Nat.add_comm]
        intro V2 HG b2
        have HG : V2.heap[B]? = some (.cells (vb (r.tail ++ [nth r (n - 1)])).toArray 5) := by have := HG.out; rwa [hsp.out] at this
        have hBV := row_lt HG
        have g2 := hG.trans b2
        have ff := frozen_row HG (n - 1)
        have cl := cell_row8 HG (n - 1) (by omega)
        rw [hlast.out] at cl
        obtain ⟨HS, g3⟩ := set_row HG (n - 1) (.int .u8 ((0 : Nat) : Int)) (vb_arr_set _ _ 0)
        rw [hst.out] at HS
        try (have hz : n - 1 = 0 := by omega
             simp only [hz] at cl ff HS g3
             clear hz)
        generalize (vb r.tail).length = cpn at *
        have f1 : IntKind.i64.wrap ((n : Int) - 1) = (n : Int) - 1 := IntWalk.i64_in _ (by omega)
        have f2 : (0 : Int) ≤ (n : Int) - 1 := by omega
        have f3 : (n : Int) - 1 < (n : Int) := by omega
        have f4 : ((n : Int) - 1).toNat = n - 1 := by omega
        have g23 := g2.grown g3 (by omega) (fun k e => by cases e; exact Nat.le_refl _)
        have hg3 := hg.below (toB _ g23)
        have HS : Hid (_ = _) := hid HS
        go_wp2
        clear f1 f2 f3 f4
        have HS := HS.out
        generalize V2.setCell _ _ = V3 at *
        have hBV3 := row_lt HS
        generalize hsh : r.tail ++ [0] = sh at *
        have Hsh : Hid (sh = shl r) := hsh.symm
        rw [← Hsh.out] at hnz Hsl Hsb
        clear hsh
        go_loopw [36] (fun i wr => ∃ q : Nat, q ≤ n ∧ i = .int .i64 q ∧ wr.heap[B]? = some (.cells (vb (addTo sh gs k 0 q)).toArray 5) ∧ V3.grownBy wr (some B)) (fun i _ => n - (intOf i).toNat)
        case atStart => exact ⟨0, by omega, rfl, HS, World.grownBy.refl _ _⟩
        case round =>
          obtain ⟨q, hq, rfl, hRq, hgq⟩ := hrel
          have hal := addTo_len sh gs k 0 q
          rw [Hsl.out] at hal
          by_cases hlq : q < n
          · obtain ⟨gb, goff, rfl, hgbl, hgcell⟩ := (hg3.grown hgq (fun b off h0 hh e => by cases e; exact ng _ _ h0 hh rfl)).cell q hlq
            have hy256 := nth_lt hgb q
            have hall := addTo_all (qs := gs) (c := k) (at_ := 0) Hsb hk q
            have hpc := cell_row8 hRq q (by omega)
            have hpf := frozen_row hRq q
            have hp256 := nth_lt hall q
            have Hq := hid (set_row hRq q (.int .u8 ((nth (addTo sh gs k 0 q) q ^^^ Gf.mul k (nth gs q) : Nat) : Int)) (vb_arr_set _ _ _))
            have Hst : Hid (addTo sh gs k 0 (q + 1) = (addTo sh gs k 0 q).set q (nth (addTo sh gs k 0 q) q ^^^ Gf.mul k (nth gs q))) := by
              show (addTo sh gs k 0 q).set (0 + q) (nth (addTo sh gs k 0 q) (0 + q) ^^^ Gf.mul k (nth gs q)) = _
              rw [Nat.zero_add]
            generalize nth (addTo sh gs k 0 q) q = x at *
            generalize nth gs q = y at *
            have hm := Gf.mul_lt k y hk
            have s5 := u8_xor_nat x (Gf.mul k y) (by omega) (by omega)
            have hal := hid hal
            go_wp2
            refine wp_region_still_tail 9 (by kernel_rfl) (by kernel_rfl) ?_
            simp only [List.take_succ_cons, List.take_zero, List.drop_succ_cons, List.drop_zero]
            repeat still_step
            still_call (mul_st k y _ (by omega) (by omega))
            repeat still_step
            refine wpStill_nil ?_
            change wpList _ _ _ _ _ wr.drew
            go_wp2
            go_roundw
            case rel => exact ⟨q + 1, by omega, by go_num, by rw [Hst.out]; exact Hq.out.1, grownBy_trans (grownBy_trans hgq Hq.out.2) (grownBy_drew _ _)⟩
            case measure => simp [intOf]; omega
          · obtain rfl : q = n := by omega
            have hal := hid hal
            go_wp2
            go_roundw
            case rel => exact ⟨m + 1, by omega, by go_num, by rw [Hr'.out, hnz.out]; exact hRq, g23.grown hgq (by omega) (fun k e => by cases e; exact Nat.le_refl _)⟩
            case measure => simp [intOf]; omega
    · obtain rfl : m = dn := by omega
      have hrl := regs_len gs (List.replicate n 0) (ds.take m) (by simp; omega)
      rw [List.length_replicate, ← Hdl.out, List.take_length] at hrl
      have Hrl := hid hrl
      rw [← Hdl.out, List.take_length] at hR
      have Bw := toB _ hG
      have hBs := row_lt hR
      clear hrl
      go_wp2_with fail
      have oR := own_of_heap (B := B) hR (by rw [vb_len, Hrl.out]) (Nat.le_refl _) (by unfold maxLen; omega)
      have hdw := hd.below Bw
      have b1 := below_alloc wr (.cells #[.slice da m dc, .slice (some ⟨B, 0, none⟩) n n] 22)
      have hw2 := heap_alloc_new wr (.cells #[.slice da m dc, .slice (some ⟨B, 0, none⟩) n n] 22)
      refine (cat_two da (some ⟨B, 0, none⟩) m dc n n ds (regs gs (List.replicate n 0) ds) wr.heap.size _ (hdw.below b1) ((Rd.ofOwn oR).below b1) (fun j u hj => ?c1) (by simp) (by omega)).mono ?_
      case c1 =>
        rw [Addr.add_lit, Nat.zero_add, cell_of_row _ _ _ _ _ _ hw2, List.getElem?_toArray]
        exact hj
      rintro e w' ⟨ao, c, rfl, o, bb⟩
      go_wp2
      go_ret
      have Bw2 := Bw.alloc Bw.size (.cells #[.slice da m dc, .slice (some ⟨B, 0, none⟩) n n] 22)
      exact ⟨ao, c, rfl, ownsRow_mono o Bw2.size, Bw2.trans (bb.mono Bw2.size)⟩
end Go.Proofs.Ytendgihkjibbaaa
