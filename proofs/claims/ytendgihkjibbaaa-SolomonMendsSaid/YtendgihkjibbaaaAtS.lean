/- At: the walk. -/
import Derived.Test.YtendgihkjibbaaaIterS
import Derived.Test.YtendgihkjibbaaaPoints
import Derived.Test.YtendgihkjibbaaaMulS
namespace Go.Proofs.Ytendgihkjibbaaa
set_option linter.unusedVariables false
open Go.RowKit Go.Shelf
attribute [local go_sem] Oper.semAt_some

/-- the rounds of At -/
def hor (x : Nat) (l : List (Nat × Nat)) : Nat := l.foldl (fun v p => Gf.mul v x ^^^ p.2) 0
theorem hor_snoc (x : Nat) (l : List (Nat × Nat)) (p : Nat × Nat) : hor x (l ++ [p]) = Gf.mul (hor x l) x ^^^ p.2 := by simp [hor]
theorem hor_lt (x : Nat) (l : List (Nat × Nat)) (h : ∀ p ∈ l, p.2 < 256) : hor x l < 256 := by
  suffices key : ∀ (l : List (Nat × Nat)) (v : Nat), v < 256 → (∀ p ∈ l, p.2 < 256) → l.foldl (fun v p => Gf.mul v x ^^^ p.2) v < 256 from key l 0 (by decide) h
  intro l
  induction l with
  | nil => intro v hv _; exact hv
  | cons p l ih => intro v hv hl; exact ih _ (Gf.xor_lt (Gf.mul_lt _ _ hv) (hl p List.mem_cons_self)) (fun q hq => hl q (List.mem_cons_of_mem _ hq))
theorem hor_back (bs : List Nat) (x : Nat) (hx : x < 256) : ∀ k, k ≤ bs.length → hor x (backL bs bs.length k) = ev (bs.drop (bs.length - k)) x
  | 0, _ => by rw [Nat.sub_zero, List.drop_length]; rfl
  | k + 1, h => by
    rw [backL_succ, hor_snoc, hor_back bs x hx k (by omega), drop_ev bs x (bs.length - (k + 1)) hx, show bs.length - (k + 1) + 1 = bs.length - k by omega, show bs.length - 1 - k = bs.length - (k + 1) by omega]

theorem kb_b {n₀ Bs : Nat} {w : World} (hn : n₀ ≤ w.heap.size) (hBs : Bs < w.heap.size) (W : World) (l : Nat) (o o' : Obj) (hl : w.heap.size ≤ l) (h : W.heap[l]? = some o) (h1 : o.isCells = false) (h2 : o.isWalk = false) : Kb n₀ Bs W (W.putObj l o') :=
  ⟨belowK_b hn W l o o' hl h h1 h2, fun v hv => (belowK_b (n₀ := Bs + 1) (w := w) (by omega) W l o o' hl h h1 h2).cell (p := ⟨Bs, 0, none⟩) (by simp) |>.trans hv⟩

set_option maxRecDepth 100000 in
set_option maxHeartbeats 4000000 in
theorem at_ok (a : Option Addr) (len cap : Nat) (bs : List Nat) (hbs : AllB bs) (x : Nat) (hx : x < 256) (hreach : len ≤ 140737488351232) (w : World) (hI : Rd w a len cap (vb bs)) :
    Calls Try.prog 16 #[.slice a len cap, .int .u8 (x : Int)] w fun e W' => (∃ v : Nat, e = .returned (.int .u8 (v : Int)) ∧ v < 256 ∧ Hid (v = ev bs x)) ∧ Below w.heap.size w W' := by
  have hl : bs.length = len := by have := hI.len; rwa [vb_len] at this
  refine (callsIn_wide (n := 8)).1 ?_
  have hro : Fence.wide.round = none := rfl
  have h1 : 1 ≤ 8 := by decide
  refine callsIn_of_wp_marks Try.func16 rfl trivial ?_ hro
  simp only [Try.ntmps16, List.size_toArray, List.length_cons, List.length_nil, Nat.reduceAdd, Nat.reduceSub, Array.replicate_succ, Array.replicate_zero, List.push_toArray, List.append_toArray, List.nil_append, List.cons_append]
  gi_wp2_with fail
  refine ⟨trivial, ?_⟩
  refine (backward19 Fence.wide (8 - 1) trivial rfl _ _ _ _).mono ?_
  rintro e w' ⟨rfl, rfl⟩
  gi_wp2_with fail
  have bX := Boxed.new w 5 (.int .u8 (x : Int))
  have bV := Boxed.new (w.alloc (.cells #[.int .u8 (x : Int)] 5)) 5 (.int .u8 0)
  have bN := Boxed.new ((w.alloc (.cells #[.int .u8 (x : Int)] 5)).alloc (.cells #[.int .u8 0] 5)) 22 (.slice a len cap)
  simp only [World.size_alloc] at bV bN
  have hB0 : Below w.heap.size w (((w.alloc (.cells #[.int .u8 (x : Int)] 5)).alloc (.cells #[.int .u8 0] 5)).alloc (.cells #[.slice a len cap] 22)) := (((Below.refl _ w).alloc (Nat.le_refl _) _).alloc (by simp) _).alloc (by simp; omega) _
  refine wpIn_rangeFunc_ownG hro h1 (gf := 30) (lb := #[.pointer (some ⟨w.heap.size + 1 + 1, 0, none⟩)]) rfl trivial (enters_of Try.func30 (by kernel_rfl) rfl)
    (stops22 Fence.wide (8 - 1) trivial hro (by omega) (w.heap.size + 1 + 1) w.heap.size a len cap bs hbs hreach _ (by simp) (by simp; omega) bN.cell (hI.below hB0) (fun h0 b off h => by
      subst h
      obtain ⟨b', off', hb', hlt, _⟩ := hI.cell 0 h0
      cases hb'; exact hlt)) (fun h k => h.trans k) (kb_b (by simp; omega) (by simp)) (Below.refl _ _) (fun _ => rfl)
    (fun pre W => ((W.cell? ⟨w.heap.size + 1, 0, none⟩ = some (.int .u8 (hor x (pre.map (·.1)) : Nat)) ∧ W.frozen? ⟨w.heap.size + 1, 0, none⟩ = false) ∧ W.cell? ⟨w.heap.size, 0, none⟩ = some (.int .u8 (x : Int))) ∧ Below w.heap.size w W)
    (fun _ _ _ => False)
    (OwnFrom.and (Own.from (fun s A B row hs hg hr => ⟨⟨cell_kept hs.1.1 hg hr, (frozen_kept hs.1.1 hg hr).trans hs.1.2⟩, cell_kept hs.2 hg hr⟩) _) (ownFrom_below (Nat.le_refl _) (by simp; omega)))
    (fun _ _ _ _ _ hs _ _ => hs)
    ⟨⟨⟨(bV.alloc _).cell, (bV.alloc _).frozen⟩, ((bX.alloc _).alloc _).cell⟩, hB0⟩
    (fun p => { tmps := #[.slice a len cap, .int .u8 (x : Int), undef, .pointer (some ⟨w.heap.size, 0, none⟩), .int .u8 0, .pointer (some ⟨w.heap.size + 1, 0, none⟩), undef, .int .u8 (p.1.2 : Int), .slice a len cap, .func (.func 30) #[] #[.pointer (some ⟨w.heap.size + 1 + 1, 0, none⟩)], .int .i64 (p.1.1 : Int), .int .u8 (p.1.2 : Int), undef, undef, undef, undef, undef, undef], defers := [] }) ?assign ?body ?done ?stop
  case assign =>
    intro l p W K hK
    dsimp only [encIb]
    gi_wp2
    exact hK
  case body =>
    rintro l pre p W ⟨⟨⟨hc, hf⟩, hx'⟩, hB⟩ _
    have hp := p.2.2
    have hh : hor x (pre.map (·.1)) < 256 := hor_lt x _ (fun q hq => by
      obtain ⟨y, _, rfl⟩ := List.mem_map.1 hq
      exact y.2.2)
    have e1 := u8_xor_nat (Gf.mul (hor x (pre.map (·.1))) x) p.1.2 (Gf.mul_lt _ _ hh) hp
    have e2 := hor_snoc x (pre.map (·.1)) p.1
    rw [← e2, show pre.map (·.1) ++ [p.1] = (pre ++ [p]).map (·.1) by simp] at e1
    clear e2
    have hw := mul_st (hor x (pre.map (·.1))) x W hh hx
    generalize hor x (pre.map (·.1)) = h at *
    generalize hh' : hor x ((pre ++ [p]).map (·.1)) = h' at *
    have hh' := hid hh'
    generalize Gf.mul h x = m at *
    gi_wp2_with fail
    refine ⟨trivial, ?_⟩
    refine (CallsIn.inRound l (callsIn_wide.2 hw)).mono ?_
    rintro e w' ⟨rfl, rfl⟩
    gi_wp2_with fail
    exact ⟨(KeepsOthers.setCell _ _ _).from _, ⟨(Below.refl w.heap.size _).setCell (p := ⟨w.heap.size + 1, 0, none⟩) (by simp) _, fun v hv => (World.cell?_setCell_other _ _ _ _ (by simp)).trans hv⟩,
      ⟨⟨by rw [hh'.out]; exact World.cell?_setCell_same' _ _ _ (by rw [hc]; rfl), by rw [World.frozen?_setCell]; exact hf⟩, (World.cell?_setCell_other _ _ _ _ (by simp)).trans hx'⟩, hB.setCell (p := ⟨w.heap.size + 1, 0, none⟩) (by simp) _⟩
  case done =>
    rintro D ys W hD hys ⟨⟨⟨hc, _⟩, _⟩, hB⟩ hK
    have hv : hor x (ys.map (·.1)) = ev bs x := by
      have h1 : ys.map (·.1) = backL bs len len := hys
      rw [h1]
      have h2 := hor_back bs x hx len (by omega)
      rw [hl, Nat.sub_self, List.drop_zero] at h2
      exact h2
    rw [hv] at hc
    have hlt := ev_lt hbs x
    gi_wp2
    refine ⟨by simp, .inl ⟨_, _, rfl, run_takeDeferred hK, ?_⟩⟩
    exact ⟨_, results_tmp rfl _ _ _, ⟨ev bs x, rfl, hlt, rfl⟩, hB.trans (belowK_b (w := w) (Nat.le_refl _) W D _ _ (by simp at hD; omega) hK rfl rfl)⟩
  case stop =>
    rintro D c pre W _ _ h _
    exact h.elim
end Go.Proofs.Ytendgihkjibbaaa
