/- Join: the walk. -/
import Derived.Test.YtbclokglkcbmkaaJoin
import Derived.Deep.DeepCutAuto
import Derived.Outline
namespace Go.Proofs.Ytbclokglkcbmkaa
set_option linter.unusedVariables false
open Go.RowKit

theorem take_ok (b : Nat) (ap nx : Int) (op : Bool) (u : Value) (ls : Bool) (w : World) (A : w.heap[b]? = some (.cells (jc ap nx op u ls) 57)) :
    Calls Try.prog 19 #[.pointer (some ⟨b, 0, none⟩)] w fun e w' => e = .returned u ∧ w'.heap[b]? = some (.cells (jc ap nx false (.slice none 0 0) ls) 57) ∧ w.grownBy w' (some b) := by
  obtain ⟨c0, c1, c2, c3, c4⟩ := jAt A
  have fz := frozen_row A
  obtain ⟨A2, g2⟩ := set_row (cs' := jc ap nx false u ls) A 2 (.bool false) rfl
  obtain ⟨A3, g3⟩ := set_row (cs' := jc ap nx false (.slice none 0 0) ls) A2 3 (.slice none 0 0) rfl
  have A3 := hid A3
  have g := hid (grownBy_trans g2 g3)
  clear A2 g2 g3
  go_enter Try.func19, Try.ntmps19
  go_wp2_with fail
  go_ret
  exact ⟨rfl, A3.out, g.out⟩

/-- is a unit open? -/
def opn (us : List Nat) : Bool := !us.isEmpty
theorem opn_cons (us : List Nat) (h : us ≠ []) : opn us = true := by cases us <;> simp_all [opn]

set_option maxHeartbeats 1000000 in
theorem stands_ok (ap nx : Int) (us : List Nat) (ua : Option Addr) (un uc : Nat) (w : World) (h1 : 0 ≤ ap ∧ ap < 2047) (h2 : -1 ≤ nx ∧ nx ≤ 16383) (h3 : un ≤ 1048576) (hl : us.length = un) (h4 : us ≠ [] → 0 ≤ nx) :
    Calls Try.prog 16 #[.agg #[.int .i64 ap, .int .i64 nx, .bool (opn us), .slice ua un uc]] w fun e w' => e = .returned (.bool true) ∧ Below w.heap.size w w' := by
  have A := heap_alloc_new w (.cells #[.int .i64 ap, .int .i64 nx, .bool (opn us), .slice ua un uc] 37)
  have B := below_alloc w (.cells #[.int .i64 ap, .int .i64 nx, .bool (opn us), .slice ua un uc] 37)
  go_enter Try.func16, Try.ntmps16
  go_wp2_with fail
  generalize w.alloc (.cells #[.int .i64 ap, .int .i64 nx, .bool (opn us), .slice ua un uc] 37) = W at *
  refine (begin_ok ap W h1).mono ?_
  rintro e V ⟨rfl, b1⟩
  have A := row_below A b1
  have B := B.trans (b1.mono B.size)
  have b2 := below_alloc V (.cells #[.int .i64 ap, .int .i64 (-1), .bool false, .slice none 0 0] 37)
  have A := row_below A b2
  have B := B.trans (b2.mono B.size)
  clear b1 b2
  go_upto_region 2 with fail
  generalize V.alloc (.cells #[.int .i64 ap, .int .i64 (-1), .bool false, .slice none 0 0] 37) = W2 at *
  have g0 : W2.cell? ⟨w.heap.size, 0, none⟩ = some (.int .i64 ap) := by rw [cell_of_row _ _ _ _ _ _ A]; rfl
  have g1 : W2.cell? ⟨w.heap.size, 1, none⟩ = some (.int .i64 nx) := by rw [cell_of_row _ _ _ _ _ _ A]; rfl
  have g2 : W2.cell? ⟨w.heap.size, 2, none⟩ = some (.bool (opn us)) := by rw [cell_of_row _ _ _ _ _ _ A]; rfl
  have g3 : W2.cell? ⟨w.heap.size, 3, none⟩ = some (.slice ua un uc) := by rw [cell_of_row _ _ _ _ _ _ A]; rfl
  have t1 : decide (nx < -1) = false := by simp; omega
  have t2 : decide ((16383 : Int) < nx) = false := by simp; omega
  have t3 : decide ((un : Int) ≤ 1048576) = true := by simp; omega
  clear A
  by_cases hu : us = []
  · subst hu
    obtain rfl : un = 0 := by simpa using hl.symm
    have e : opn [] = false := rfl
    rw [e] at g2
    go_wp2_with fail
    go_ret
    exact ⟨rfl, B⟩
  · rw [opn_cons us hu] at g2
    have hn : 0 < un := by rw [← hl]; exact List.length_pos_iff.2 hu
    have t4 : decide ((0 : Int) < (un : Int)) = true := by simp; omega
    have h0 := h4 hu
    have t5 : decide (nx < 0) = false := by simp; omega
    go_wp2_with fail
    go_ret
    exact ⟨rfl, B⟩

/-- what a packet does to what is joined -/
def mism (nx : Int) (ct : Nat) : Bool := decide (0 ≤ nx) && !(decide (nx = (ct : Int)))
def un1 (nx : Int) (ct : Nat) (us : List Nat) : List Nat := if mism nx ct then [] else us
def un2 (fi : Bool) (us ds : List Nat) : List Nat := if fi then ds else if us.isEmpty then [] else us ++ ds
theorem un2_len (fi : Bool) (us ds : List Nat) : (un2 fi us ds).length ≤ us.length + ds.length := by
  unfold un2
  split
  · omega
  · split <;> simp
theorem un2_app (us ds : List Nat) (h : us ≠ []) : un2 false us ds = us ++ ds := by
  cases us with
  | nil => exact absurd rfl h
  | cons a l => rfl
def un3 (la : Bool) (us : List Nat) : List Nat := if la then [] else us
def got3 (la : Bool) (us : List Nat) : List Nat := if la then us else []
def pv (fi la : Bool) : Int := (if fi then 1 else 0) + (if la then 2 else 0)
theorem pv_bits (fi la : Bool) : bits .and .i64 (pv fi la) 1 = (if fi then 1 else 0) ∧ bits .and .i64 (pv fi la) 2 = (if la then 2 else 0) := by
  cases fi <;> cases la <;> exact ⟨rfl, rfl⟩

theorem un3_len (la : Bool) (us : List Nat) : (un3 la us).length ≤ us.length := by
  unfold un3
  split <;> simp

/-- how it stands while a packet is joined: block b -/
def Jn (w0 W : World) (H b : Nat) (pk zc : Array Value) (ap nx : Int) (us : List Nat) (fresh : Bool) : Prop :=
  ∃ (ls : Bool) (ua : Option Addr) (un uc : Nat), us.length = un ∧ W.heap[b]? = some (.cells (jc ap nx (opn us) (.slice ua un uc) ls) 57) ∧ Rd W ua un uc (vb us) ∧
    (∀ b' off, 0 < un → ua = some ⟨b', off, none⟩ → b' ≠ b) ∧ (fresh = true → us ≠ [] → W.ownsRow w0.heap.size 5 1 (.slice ua un uc) un (vb us)) ∧
    W.heap[H + 1]? = some (.cells pk 29) ∧ W.heap[H + 1 + 1]? = some (.cells zc 37) ∧ Below w0.heap.size w0 W

theorem Jn.below {w0 W W' : World} {H b : Nat} {pk zc : Array Value} {ap nx : Int} {us : List Nat} {fresh : Bool} (h : Jn w0 W H b pk zc ap nx us fresh) (hb : Below W.heap.size W W') : Jn w0 W' H b pk zc ap nx us fresh := by
  obtain ⟨ls, ua, un, uc, h1, A, hr, hne, ho, A1, A2, B⟩ := h
  exact ⟨ls, ua, un, uc, h1, row_below A hb, hr.below hb, hne, fun a c => ownsRow_below (ho a c) hb, row_below A1 hb, row_below A2 hb, B.trans (hb.mono B.size)⟩
theorem Jn.drewN {w0 W : World} {H b : Nat} {pk zc : Array Value} {ap nx : Int} {us : List Nat} {fresh : Bool} (h : Jn w0 W H b pk zc ap nx us fresh) (n : Nat) : Jn w0 (W.drewN n) H b pk zc ap nx us fresh := h.below (below_drewN _ _)

theorem Jn.added {w0 V W : World} {H b : Nat} {pk zc : Array Value} {ap nx : Int} {us2 : List Nat} {ls : Bool} {ao : Option Addr} {n c : Nat} (A1 : V.heap[H + 1]? = some (.cells pk 29)) (A2 : V.heap[H + 1 + 1]? = some (.cells zc 37)) (B : Below w0.heap.size w0 V)
    (g : V.grownBy W (some b)) (AJ : W.heap[b]? = some (.cells (jc ap nx true (.slice ao n c) ls) 57)) (oo : W.ownsRow V.heap.size 5 1 (.slice ao n c) n (vb us2)) (h0 : us2 ≠ []) (hn : us2.length = n) (hb : H + 1 + 1 < b) (hw : w0.heap.size ≤ b) (hv : b < V.heap.size) : Jn w0 W H b pk zc ap nx us2 true := by
  refine ⟨ls, ao, n, c, hn, by rw [opn_cons us2 h0]; exact AJ, Rd.ofOwn oo, fun b' off h1 h2 => ?_, fun _ _ => ownsRow_mono oo (Nat.le_trans hw (Nat.le_of_lt hv)), row_grown A1 g (by omega), row_grown A2 g (by omega), B.grown g B.size (fun k e => by cases e; exact hw)⟩
  obtain ⟨_, _, hv', _, _, hh⟩ := own_form oo
  cases hv'
  rcases hh with ⟨h', _⟩ | ⟨g', h', h3, _⟩
  · rw [h'] at h2; cases h2
  · rw [h'] at h2; cases h2; omega

theorem Jn.weak {w0 W : World} {H b : Nat} {pk zc : Array Value} {ap nx : Int} {us : List Nat} (h : Jn w0 W H b pk zc ap nx us true) : Jn w0 W H b pk zc ap nx us false := by
  obtain ⟨ls, ua, un, uc, h1, A, hr, hne, _, A1, A2, B⟩ := h
  exact ⟨ls, ua, un, uc, h1, A, hr, hne, (fun h => by cases h), A1, A2, B⟩

set_option maxHeartbeats 4000000 in
set_option maxRecDepth 100000 in
theorem join_ok (ap nx : Int) (us ds : List Nat) (ua da : Option Addr) (un uc dn dc : Nat) (up se fi la : Bool) (ct : Nat) (w : World)
    (h1 : 0 ≤ ap ∧ ap < 2047) (h2 : -1 ≤ nx ∧ nx ≤ 16383) (h3 : us.length + ds.length ≤ 1048576) (h4 : us ≠ [] → 0 ≤ nx) (hct : ct ≤ 16383) (hdn : 0 < dn) (hdn2 : dn ≤ 65536)
    (hu : Rd w ua un uc (vb us)) (hd : Rd w da dn dc (vb ds)) :
    Calls Try.prog 10 #[.agg #[.int .i64 ap, .int .i64 nx, .bool (opn us), .slice ua un uc], .agg #[.bool up, .bool se, .int .i64 ap, .int .i64 (pv fi la), .int .i64 ct, .slice da dn dc]] w
      fun e w' => ∃ (ua' ta : Option Addr) (un' uc' tn tc : Nat) (ls : Bool), e = .returned (.tuple #[.agg #[.int .i64 ap, .int .i64 (((ct + 1) % 16384 : Nat) : Int), .bool (opn (un3 la (un2 fi (un1 nx ct us) ds))), .slice ua' un' uc'], .slice ta tn tc, .bool ls, .int .i64 0]) ∧
        w'.ownsRow w.heap.size 5 1 (.slice ua' un' uc') un' (vb (un3 la (un2 fi (un1 nx ct us) ds))) ∧ w'.ownsRow w.heap.size 5 1 (.slice ta tn tc) tn (vb (got3 la (un2 fi (un1 nx ct us) ds))) ∧ Below w.heap.size w w' := by
  have hul : us.length = un := by have := hu.len; rwa [vb_len] at this
  have hdl : ds.length = dn := by have := hd.len; rwa [vb_len] at this
  obtain ⟨H, hH⟩ : ∃ H, H = w.heap.size := ⟨_, rfl⟩
  have A1 := heap_alloc_new (w.alloc (.cells #[.int .i64 ap, .int .i64 nx, .bool (opn us), .slice ua un uc] 37)) (.cells #[.bool up, .bool se, .int .i64 ap, .int .i64 (pv fi la), .int .i64 ct, .slice da dn dc] 29)
  have A0 := heap_alloc_new w (.cells #[.int .i64 ap, .int .i64 nx, .bool (opn us), .slice ua un uc] 37)
  have b0 := below_alloc w (.cells #[.int .i64 ap, .int .i64 nx, .bool (opn us), .slice ua un uc] 37)
  have b1 := below_alloc (w.alloc (.cells #[.int .i64 ap, .int .i64 nx, .bool (opn us), .slice ua un uc] 37)) (.cells #[.bool up, .bool se, .int .i64 ap, .int .i64 (pv fi la), .int .i64 ct, .slice da dn dc] 29)
  have A2 := heap_alloc_new ((w.alloc (.cells #[.int .i64 ap, .int .i64 nx, .bool (opn us), .slice ua un uc] 37)).alloc (.cells #[.bool up, .bool se, .int .i64 ap, .int .i64 (pv fi la), .int .i64 ct, .slice da dn dc] 29)) (.cells #[.int .i64 0, .int .i64 0, .bool false, .slice none 0 0] 37)
  have b2 := below_alloc ((w.alloc (.cells #[.int .i64 ap, .int .i64 nx, .bool (opn us), .slice ua un uc] 37)).alloc (.cells #[.bool up, .bool se, .int .i64 ap, .int .i64 (pv fi la), .int .i64 ct, .slice da dn dc] 29)) (.cells #[.int .i64 0, .int .i64 0, .bool false, .slice none 0 0] 37)
  have A0 := row_below (row_below A0 b1) b2
  have A1 := row_below A1 b2
  have BW := b0.trans ((b1.trans (b2.mono b1.size)).mono b0.size)
  simp only [World.size_alloc] at A1 A2
  clear b0 b1 b2
  go_enter Try.func10, Try.ntmps10
  go_upto_region 1 with fail
  generalize ((w.alloc (.cells #[.int .i64 ap, .int .i64 nx, .bool (opn us), .slice ua un uc] 37)).alloc (.cells #[.bool up, .bool se, .int .i64 ap, .int .i64 (pv fi la), .int .i64 ct, .slice da dn dc] 29)).alloc (.cells #[.int .i64 0, .int .i64 0, .bool false, .slice none 0 0] 37) = W at *
  have k0 : W.cell? ⟨w.heap.size, 0, none⟩ = some (.int .i64 ap) := by rw [cell_of_row _ _ _ _ _ _ A0]; rfl
  have k1 : W.cell? ⟨w.heap.size, 1, none⟩ = some (.int .i64 nx) := by rw [cell_of_row _ _ _ _ _ _ A0]; rfl
  have k2 : W.cell? ⟨w.heap.size, 2, none⟩ = some (.bool (opn us)) := by rw [cell_of_row _ _ _ _ _ _ A0]; rfl
  have k3 : W.cell? ⟨w.heap.size, 3, none⟩ = some (.slice ua un uc) := by rw [cell_of_row _ _ _ _ _ _ A0]; rfl
  have hHs := hid hH
  clear hH
  go_wp2_with fail
  refine (stands_ok ap nx us ua un uc W h1 h2 (by omega) hul h4).mono ?_
  rintro e V ⟨rfl, b1⟩
  clear k0 k1 k2 k3
  have A0 := row_below A0 b1
  have A1 := row_below A1 b1
  have A2 := row_below A2 b1
  have BV := BW.trans (b1.mono BW.size)
  clear b1 BW
  have p0 : V.cell? ⟨w.heap.size + 1, 0, none⟩ = some (.bool up) := by rw [cell_of_row _ _ _ _ _ _ A1]; rfl
  have p1 : V.cell? ⟨w.heap.size + 1, 1, none⟩ = some (.bool se) := by rw [cell_of_row _ _ _ _ _ _ A1]; rfl
  have p2 : V.cell? ⟨w.heap.size + 1, 2, none⟩ = some (.int .i64 ap) := by rw [cell_of_row _ _ _ _ _ _ A1]; rfl
  have p3 : V.cell? ⟨w.heap.size + 1, 3, none⟩ = some (.int .i64 (pv fi la)) := by rw [cell_of_row _ _ _ _ _ _ A1]; rfl
  have p4 : V.cell? ⟨w.heap.size + 1, 4, none⟩ = some (.int .i64 ct) := by rw [cell_of_row _ _ _ _ _ _ A1]; rfl
  have p5 : V.cell? ⟨w.heap.size + 1, 5, none⟩ = some (.slice da dn dc) := by rw [cell_of_row _ _ _ _ _ _ A1]; rfl
  go_wp2_with fail
  have hmay : mayCode ap (pv fi la) ct dn = 0 := by
    have : 0 ≤ pv fi la ∧ pv fi la ≤ 3 := by cases fi <;> cases la <;> decide
    unfold mayCode
    rw [if_pos ⟨h1.1, by omega, this.1, this.2, by omega, by omega⟩, if_neg (by omega)]
  refine (may_any up se ap (pv fi la) ct da dn dc V).mono ?_
  rintro e V2 ⟨rfl, b1⟩
  rw [hmay]
  clear p0 p1 p2 p3 p4 p5 hmay
  have A0 := row_below A0 b1
  have A1 := row_below A1 b1
  have A2 := row_below A2 b1
  have BV := BV.trans (b1.mono BV.size)
  clear b1
  have k0 : V2.cell? ⟨w.heap.size, 0, none⟩ = some (.int .i64 ap) := by rw [cell_of_row _ _ _ _ _ _ A0]; rfl
  have k1 : V2.cell? ⟨w.heap.size, 1, none⟩ = some (.int .i64 nx) := by rw [cell_of_row _ _ _ _ _ _ A0]; rfl
  have k2 : V2.cell? ⟨w.heap.size, 2, none⟩ = some (.bool (opn us)) := by rw [cell_of_row _ _ _ _ _ _ A0]; rfl
  have k3 : V2.cell? ⟨w.heap.size, 3, none⟩ = some (.slice ua un uc) := by rw [cell_of_row _ _ _ _ _ _ A0]; rfl
  have p2 : V2.cell? ⟨w.heap.size + 1, 2, none⟩ = some (.int .i64 ap) := by rw [cell_of_row _ _ _ _ _ _ A1]; rfl
  have AJ := heap_alloc_new V2 (.cells (jc ap nx (opn us) (.slice ua un uc) false) 57)
  have bJ := below_alloc V2 (.cells (jc ap nx (opn us) (.slice ua un uc) false) 57)
  have A1 := row_below A1 bJ
  have A2 := row_below A2 bJ
  have BV := BV.trans (bJ.mono BV.size)
  have hb2 : w.heap.size + 1 + 1 < V2.heap.size := by
    have h1 := row_lt ‹V2.heap[w.heap.size + 1 + 1]? = _›
    exact h1
  have hj : Jn w (V2.alloc (.cells (jc ap nx (opn us) (.slice ua un uc) false) 57)) w.heap.size V2.heap.size #[.bool up, .bool se, .int .i64 ap, .int .i64 (pv fi la), .int .i64 ct, .slice da dn dc] #[.int .i64 0, .int .i64 0, .bool false, .slice none 0 0] ap nx us false :=
    ⟨false, ua, un, uc, hul, AJ, hu.below BV, fun b' off h0 h => (by have := hu.block_lt h0 h; omega), (fun h => by cases h), A1, A2, BV⟩
  clear A0 A1 A2 BV bJ AJ
  unfold jc at hj
  go_upto_region 9 with fail
  generalize V2.alloc (.cells #[.int .i64 ap, .int .i64 nx, .bool (opn us), .slice ua un uc, .bool false] 57) = V3 at *
  generalize V2.heap.size = jb at *
  go_cut [45] (fun s wx => s = .bool (mism nx ct) ∧ Jn w wx w.heap.size jb #[.bool up, .bool se, .int .i64 ap, .int .i64 (pv fi la), .int .i64 ct, .slice da dn dc] #[.int .i64 0, .int .i64 0, .bool false, .slice none 0 0] ap nx us false)
  case first =>
    have hj' := hid hj
    obtain ⟨ls, ua', un', uc', _, AJ, _, _, _, A1, _, _⟩ := hj
    obtain ⟨c0, c1, c2, c3, c4⟩ := jAt AJ
    have p4 : V3.cell? ⟨w.heap.size + 1, 4, none⟩ = some (.int .i64 ct) := by rw [cell_of_row _ _ _ _ _ _ A1]; rfl
    clear AJ A1
    by_cases hn : 0 ≤ nx
    · have d1 : decide (0 ≤ nx) = true := by simp [hn]
      have hm : mism nx ct = !(decide (nx = (ct : Int))) := by unfold mism; rw [d1]; rfl
      have hm2 : (nx != (ct : Int)) = mism nx ct := by rw [hm]; rfl
      go_quiet (fail)
      go_wp2_with fail
      go_meet
      case rel => exact ⟨by first | exact congrArg Value.bool hm2 | simp [← hm2], hj'.out.drewN _⟩
    · have d1 : decide (0 ≤ nx) = false := by simp [hn]
      have hm : mism nx ct = false := by unfold mism; rw [d1]; rfl
      go_quiet (fail)
      go_wp2_with fail
      go_meet
      case rel => exact ⟨by rw [hm], hj'.out.drewN _⟩
  case rest =>
    clear hj
    obtain ⟨rfl, hj⟩ := hcut
    clear V3
    go_upto_if 45 with fail
    go_cut [] (fun wx => Jn w wx w.heap.size jb #[.bool up, .bool se, .int .i64 ap, .int .i64 (pv fi la), .int .i64 ct, .slice da dn dc] #[.int .i64 0, .int .i64 0, .bool false, .slice none 0 0] ap nx (un1 nx ct us) false)
    case first =>
      cases hm : mism nx ct
      · have e : un1 nx ct us = us := by unfold un1; rw [hm]; rfl
        rw [← e] at hj
        clear e hm
        go_wp2_with fail
        go_meet
        case rel => exact hj
      · have e : un1 nx ct us = [] := by unfold un1; rw [hm]; rfl
        have e := hid e
        obtain ⟨ls, ua', un', uc', _, AJ, _, _, _, A1, A2, B⟩ := hj
        clear hm
        go_wp2_with fail
        refine (drop_ok jb ap nx _ _ ls _ AJ).mono ?_
        rintro e' V4 ⟨rfl, AJ, g⟩
        obtain ⟨c0, c1, c2, c3, c4⟩ := jAt AJ
        have fz := frozen_row AJ
        obtain ⟨AJ, g1⟩ := set_row (cs' := jc ap nx false (.slice none 0 0) true) AJ 4 (.bool true) rfl
        have g := grownBy_trans g g1
        have A1 := row_grown A1 g (by omega)
        have A2 := row_grown A2 g (by omega)
        have B := B.grown g B.size (fun k e => by cases e; omega)
        have hj : Jn w (V4.setCell ⟨jb, 4, none⟩ (.bool true)) w.heap.size jb #[.bool up, .bool se, .int .i64 ap, .int .i64 (pv fi la), .int .i64 ct, .slice da dn dc] #[.int .i64 0, .int .i64 0, .bool false, .slice none 0 0] ap nx [] false :=
          ⟨true, none, 0, 0, rfl, AJ, Rd.nil _, (fun _ _ h => by omega), (fun h => by cases h), A1, A2, B⟩
        rw [← e.out] at hj
        clear g g1 AJ A1 A2 B
        go_wp2_with fail
        go_meet
        case rel => exact hj
    case rest =>
      have hlen1 : (un1 nx ct us).length ≤ us.length := by unfold un1; split <;> simp
      obtain ⟨us1, hus1⟩ : ∃ x, x = un1 nx ct us := ⟨_, rfl⟩
      rw [← hus1] at hcut hlen1
      have Hus1 := hid hus1
      clear hus1
      clear hj
      obtain ⟨ls, ua1, un1', uc1, hl1, AJ, hr1, hne1, _, A1, A2, B⟩ := hcut
      obtain ⟨nx', hnx'⟩ : ∃ nx' : Int, nx' = (((ct + 1) % 16384 : Nat) : Int) := ⟨_, rfl⟩
      have e1 : bits .and .i64 ((ct : Int) + 1) 16383 = nx' := by rw [and16383, hnx']; omega
      have Hnx := hid hnx'
      clear hnx'
      have e2 : (bits .and .i64 (pv fi la) 1 != 0) = fi := by rw [(pv_bits fi la).1]; cases fi <;> rfl
      have e3 : (bits .and .i64 (pv fi la) 2 != 0) = la := by rw [(pv_bits fi la).2]; cases la <;> rfl
      have p3 := cell_of_row _ _ 3 _ _ _ A1
      have p4 := cell_of_row _ _ 4 _ _ _ A1
      have p3 : wc.cell? ⟨w.heap.size + 1, 3, none⟩ = some (.int .i64 (pv fi la)) := p3
      have p4 : wc.cell? ⟨w.heap.size + 1, 4, none⟩ = some (.int .i64 ct) := p4
      obtain ⟨c0, c1, c2, c3, c4⟩ := jAt AJ
      have fz := frozen_row AJ
      obtain ⟨AJ1, g1⟩ := set_row (cs' := jc ap nx' (opn us1) (.slice ua1 un1' uc1) ls) AJ 1 (.int .i64 nx') rfl
      have A1' := row_grown A1 g1 (by omega)
      have A2' := row_grown A2 g1 (by omega)
      have B1 := B.grown g1 B.size (fun k e => by cases e; omega)
      have hj : Jn w (wc.setCell ⟨jb, 1, none⟩ (.int .i64 nx')) w.heap.size jb #[.bool up, .bool se, .int .i64 ap, .int .i64 (pv fi la), .int .i64 ct, .slice da dn dc] #[.int .i64 0, .int .i64 0, .bool false, .slice none 0 0] ap nx' us1 false :=
        ⟨ls, ua1, un1', uc1, hl1, AJ1, hr1.grown g1 (fun b' off h0 h e => by cases e; exact hne1 _ _ h0 h rfl), hne1, (fun h => by cases h), A1', A2', B1⟩
      clear A1 A2 B g1 AJ1 A1' A2' B1 hr1 hne1 AJ
      go_upto_if 62 with fail
      generalize wc.setCell ⟨jb, 1, none⟩ (.int .i64 nx') = V5 at *
      clear p3 p4 c0 c1 c2 c3 c4 fz e1 e2
      go_cut [] (fun wx => Jn w wx w.heap.size jb #[.bool up, .bool se, .int .i64 ap, .int .i64 (pv fi la), .int .i64 ct, .slice da dn dc] #[.int .i64 0, .int .i64 0, .bool false, .slice none 0 0] ap nx' (un2 fi us1 ds) true)
      case first =>
        clear hl1
        obtain ⟨ls, ua1, un1', uc1, hl1, AJ, hr1, hne1, _, A1, A2, B⟩ := hj
        have p5 : V5.cell? ⟨w.heap.size + 1, 5, none⟩ = some (.slice da dn dc) := by rw [cell_of_row _ _ _ _ _ _ A1]; rfl
        obtain ⟨c0, c1, c2, c3, c4⟩ := jAt AJ
        have hds : ds ≠ [] := by intro h; rw [h] at hdl; simp at hdl; omega
        have hjl : jb < V5.heap.size := row_lt AJ
        cases fi
        · by_cases hu1 : us1 = []
          · subst hu1
            have fz := frozen_row AJ
            have e : opn [] = false := rfl
            rw [e] at c2
            obtain ⟨AJ1, g1⟩ := set_row (cs' := jc ap nx' (opn []) (.slice ua1 un1' uc1) true) AJ 4 (.bool true) rfl
            have A1' := row_grown A1 g1 (by omega)
            have A2' := row_grown A2 g1 (by omega)
            have B1 := B.grown g1 B.size (fun k e => by cases e; omega)
            have hj : Jn w (V5.setCell ⟨jb, 4, none⟩ (.bool true)) w.heap.size jb #[.bool up, .bool se, .int .i64 ap, .int .i64 (pv false la), .int .i64 ct, .slice da dn dc] #[.int .i64 0, .int .i64 0, .bool false, .slice none 0 0] ap nx' (un2 false [] ds) true :=
              ⟨true, ua1, un1', uc1, hl1, AJ1, hr1.grown g1 (fun b' off h0 h e => by cases e; exact hne1 _ _ h0 h rfl), hne1, (fun _ h => absurd rfl h), A1', A2', B1⟩
            clear A1' A2' B1 g1 AJ1 A1 A2 AJ B
            go_wp2_with fail
            go_meet
            case rel => exact hj
          · have e := opn_cons us1 hu1
            rw [e] at c2
            have e2 := hid (un2_app us1 ds hu1)
            clear e
            go_wp2_with fail
            refine (add_ok jb ap nx' _ ls ua1 da un1' uc1 dn dc us1 ds _ AJ hr1 (hd.below B) (by omega)).mono ?_
            rintro e V6 ⟨ao, c, rfl, AJ6, o6, g6⟩
            have hj : Jn w V6 w.heap.size jb #[.bool up, .bool se, .int .i64 ap, .int .i64 (pv false la), .int .i64 ct, .slice da dn dc] #[.int .i64 0, .int .i64 0, .bool false, .slice none 0 0] ap nx' (un2 false us1 ds) true := by
              rw [e2.out]
              exact Jn.added A1 A2 B g6 AJ6 o6 (by simp [hu1]) (by simp; omega) hb2 (by omega) hjl
            clear AJ6 o6 g6 AJ A1 A2 B hr1
            go_wp2_with fail
            go_meet
            case rel => exact hj
        · have e2 : un2 true us1 ds = ds := rfl
          have e2 := hid e2
          go_wp2_with fail
          refine (drop_ok jb ap nx' _ _ ls _ AJ).mono ?_
          rintro e V6 ⟨rfl, AJ6, g6⟩
          have A1 := row_grown A1 g6 (by omega)
          have A2 := row_grown A2 g6 (by omega)
          have B := B.grown g6 B.size (fun k e => by cases e; omega)
          clear p5 c0 c1 c2 c3 c4
          have p5 : V6.cell? ⟨w.heap.size + 1, 5, none⟩ = some (.slice da dn dc) := by rw [cell_of_row _ _ _ _ _ _ A1]; rfl
          go_wp2_with fail
          refine (add_ok jb ap nx' _ _ none da 0 0 dn dc [] ds _ AJ6 (Rd.nil _) (hd.below B) (by omega)).mono ?_
          rintro e V7 ⟨ao, c, rfl, AJ7, o7, g7⟩
          have hj : Jn w V7 w.heap.size jb #[.bool up, .bool se, .int .i64 ap, .int .i64 (pv true la), .int .i64 ct, .slice da dn dc] #[.int .i64 0, .int .i64 0, .bool false, .slice none 0 0] ap nx' (un2 true us1 ds) true := by
            rw [e2.out]
            exact Jn.added A1 A2 B g7 AJ7 o7 (by simpa using hds) (by simp; omega) hb2 (by omega) (row_lt AJ6)
          clear AJ6 g6 AJ7 o7 g7 AJ A1 A2 B hr1
          go_wp2_with fail
          go_meet
          case rel => exact hj
      case rest =>
        clear hj
        have hj := hcut
        clear hcut V5
        have hlen2 : (un2 fi us1 ds).length ≤ 1048576 := by have := un2_len fi us1 ds; omega
        obtain ⟨us2, hus2⟩ : ∃ x, x = un2 fi us1 ds := ⟨_, rfl⟩
        rw [← hus2] at hj hlen2
        have Hus2 := hid hus2
        clear hus2
        go_upto_region 20 with fail
        go_cut [91] (fun s wx => s = .bool (la && opn us2) ∧ Jn w wx w.heap.size jb #[.bool up, .bool se, .int .i64 ap, .int .i64 (pv fi la), .int .i64 ct, .slice da dn dc] #[.int .i64 0, .int .i64 0, .bool false, .slice none 0 0] ap nx' us2 true)
        case first =>
          have hj' := hid hj
          obtain ⟨ls, ua', un', uc', _, AJ, _, _, _, A1, _, _⟩ := hj
          obtain ⟨c0, c1, c2, c3, c4⟩ := jAt AJ
          have p3 : wc.cell? ⟨w.heap.size + 1, 3, none⟩ = some (.int .i64 (pv fi la)) := by rw [cell_of_row _ _ _ _ _ _ A1]; rfl
          clear AJ A1
          cases la
          · go_wp2_with fail
            go_meet
            case rel => exact ⟨rfl, hj'.out⟩
          · go_wp2_with fail
            go_meet
            case rel => exact ⟨rfl, hj'.out⟩
        case rest =>
          clear hj
          obtain ⟨rfl, hj⟩ := hcut
          clear e3
          go_upto_if 91 with fail
          go_cut [10] (fun s wx => (∃ ta tn tc, s = .slice ta tn tc ∧ wx.ownsRow w.heap.size 5 1 (.slice ta tn tc) tn (vb (got3 la us2))) ∧ Jn w wx w.heap.size jb #[.bool up, .bool se, .int .i64 ap, .int .i64 (pv fi la), .int .i64 ct, .slice da dn dc] #[.int .i64 0, .int .i64 0, .bool false, .slice none 0 0] ap nx' (un3 la us2) false)
          case first =>
            cases la
            · rw [show (false && opn us2) = false from rfl]
              go_wp2_with fail
              go_meet
              case rel => exact ⟨⟨none, 0, 0, rfl, World.ownsRow_nil _ _ _ _⟩, hj.weak⟩
            · by_cases hu2 : us2 = []
              · subst hu2
                rw [show (true && opn []) = false from rfl]
                go_wp2_with fail
                go_meet
                case rel => exact ⟨⟨none, 0, 0, rfl, World.ownsRow_nil _ _ _ _⟩, hj.weak⟩
              · rw [show (true && opn us2) = true from opn_cons us2 hu2]
                obtain ⟨ls, ua2, un2', uc2, hl2, AJ, hr2, hne2, ho2, A1, A2, B⟩ := hj
                have o2 := ho2 rfl hu2
                clear ho2 hr2
                go_wp2_with fail
                refine (take_ok jb ap nx' _ _ ls _ AJ).mono ?_
                rintro e V6 ⟨rfl, AJ6, g6⟩
                have o6 := o2.kept g6 (by
                  obtain ⟨_, _, hv', _, _, hh⟩ := own_form o2
                  cases hv'
                  rcases hh with ⟨h', h0, _⟩ | ⟨g', h', h3, _⟩
                  · exact .inl (by rw [h']; rfl)
                  · refine .inr fun he => ?_
                    have h9 : g' = jb := by rw [h'] at he; cases he; rfl
                    have : un2' ≠ 0 := fun h => hu2 (List.eq_nil_of_length_eq_zero (hl2.trans h))
                    exact hne2 g' 0 (by omega) h' h9)
                have hj : Jn w V6 w.heap.size jb #[.bool up, .bool se, .int .i64 ap, .int .i64 (pv fi true), .int .i64 ct, .slice da dn dc] #[.int .i64 0, .int .i64 0, .bool false, .slice none 0 0] ap nx' (un3 true us2) false :=
                  ⟨ls, none, 0, 0, rfl, AJ6, Rd.nil _, (fun _ _ h => by omega), (fun h => by cases h), row_grown A1 g6 (by omega), row_grown A2 g6 (by omega), B.grown g6 B.size (fun k e => by cases e; omega)⟩
                clear AJ6 g6 AJ A1 A2 B o2
                go_wp2_with fail
                go_meet
                case rel => exact ⟨⟨_, _, _, rfl, o6⟩, hj⟩
          case rest =>
            clear hj
            obtain ⟨⟨ta, tn, tc, rfl, ot⟩, hj⟩ := hcut
            have hlen3 : (un3 la us2).length ≤ 1048576 := by have := un3_len la us2; omega
            obtain ⟨us3, hus3⟩ : ∃ x, x = un3 la us2 := ⟨_, rfl⟩
            rw [← hus3] at hj hlen3
            have Hus3 := hid hus3
            clear hus3
            obtain ⟨gt, hgt⟩ : ∃ x, x = got3 la us2 := ⟨_, rfl⟩
            rw [← hgt] at ot
            have Hgt := hid hgt
            clear hgt
            obtain ⟨ls, ua3, un3', uc3, hl3, AJ, hr3, hne3, _, A1, A2, B⟩ := hj
            obtain ⟨c0, c1, c2, c3, c4⟩ := jAt AJ
            go_wp2_with fail
            refine (clone_any ua3 un3' uc3 us3 _ hr3 (by omega)).mono ?_
            rintro e V8 ⟨ao, cc, rfl, o8, b8⟩
            have hjl : jb < wc.heap.size := row_lt AJ
            have AJ := row_below AJ b8
            have A2 := row_below A2 b8
            have B := B.trans (b8.mono B.size)
            have ot := ownsRow_below ot b8
            clear c0 c1 c2 c3 c4 A1 b8 hr3 hne3
            obtain ⟨c0, c1, c2, c3, c4⟩ := jAt AJ
            have fz := frozen_row AJ
            obtain ⟨AJ1, g1⟩ := set_row (cs' := jc ap nx' (opn us3) (.slice ao un3' cc) ls) AJ 3 (.slice ao un3' cc) rfl
            have A2 := row_grown A2 g1 (by omega)
            have B := B.grown g1 B.size (fun k e => by cases e; omega)
            have ot := ot.kept g1 (own_ne ot AJ (by decide))
            have o8 := o8.kept g1 (own_ne o8 AJ (by decide))
            clear g1 AJ
            go_upto_region 23 with fail
            clear c0 c1 c2 c3 c4 fz
            generalize V8.setCell ⟨jb, 3, none⟩ (.slice ao un3' cc) = V9 at *
            have o8 := ownsRow_mono o8 (Nat.le_of_lt (Nat.lt_of_le_of_lt (show w.heap.size ≤ jb by omega) hjl))
            refine wp_region_can_all [9] [0, 1, 2, 3, 4, 5, 6, 7, 8, 9, 10, 11, 12] (fun u u' => u.grownBy u' (some (w.heap.size + 1 + 1))) (fun u => World.grownBy.refl u _) (fun _ _ _ h k => grownBy_trans h k) (by kernel_rfl) (by kernel_rfl) ?_
            have A2 : V9.drew.heap[w.heap.size + 1 + 1]? = _ := A2
            have AJ1 : V9.drew.heap[jb]? = _ := AJ1
            have B := B.drew
            have ot := ot.drew
            have o8 := o8.drew
            generalize V9.drew = V4 at *
            have hn : ∀ w', V4.grownBy w' (some (w.heap.size + 1 + 1)) → JAt w' jb ap nx' (opn us3) (.slice ao un3' cc) ls := fun w' hw => jAt (row_grown AJ1 hw (by omega))
            have n0 : ∀ w', V4.grownBy w' (some (w.heap.size + 1 + 1)) → w'.cell? ⟨jb, 0, none⟩ = some (.int .i64 ap) := fun w' hw => (hn w' hw).c0
            have n1 : ∀ w', V4.grownBy w' (some (w.heap.size + 1 + 1)) → w'.cell? ⟨jb, 1, none⟩ = some (.int .i64 nx') := fun w' hw => (hn w' hw).c1
            have n2 : ∀ w', V4.grownBy w' (some (w.heap.size + 1 + 1)) → w'.cell? ⟨jb, 2, none⟩ = some (.bool (opn us3)) := fun w' hw => (hn w' hw).c2
            have n3 : ∀ w', V4.grownBy w' (some (w.heap.size + 1 + 1)) → w'.cell? ⟨jb, 3, none⟩ = some (.slice ao un3' cc) := fun w' hw => (hn w' hw).c3
            have n4 : ∀ w', V4.grownBy w' (some (w.heap.size + 1 + 1)) → w'.cell? ⟨jb, 4, none⟩ = some (.bool ls) := fun w' hw => (hn w' hw).c4
            clear hn
            simp only [List.map_cons, List.map_nil, List.contains_cons, List.contains_nil, List.getD_cons_zero, List.getD_cons_succ, Nat.reduceBEq, Bool.or_false]
            repeat (refine wpL_do rfl (fun w' hw' => (by go_simp; rfl)) ?_; simp only [Act.put, List.setIfInBounds_toArray, List.set_cons_succ, List.set_cons_zero])
            clear n0 n1 n2 n3 n4
            refine wpL_call rfl (fun K hK => ?_)
            have z0 : V4.cell? ⟨w.heap.size + 1 + 1, 0, none⟩ = some (.int .i64 0) := by rw [cell_of_row _ _ _ _ _ _ A2]; rfl
            have z1 : V4.cell? ⟨w.heap.size + 1 + 1, 1, none⟩ = some (.int .i64 0) := by rw [cell_of_row _ _ _ _ _ _ A2]; rfl
            have z2 : V4.cell? ⟨w.heap.size + 1 + 1, 2, none⟩ = some (.bool false) := by rw [cell_of_row _ _ _ _ _ _ A2]; rfl
            have z3 : V4.cell? ⟨w.heap.size + 1 + 1, 3, none⟩ = some (.slice none 0 0) := by rw [cell_of_row _ _ _ _ _ _ A2]; rfl
            have fz := frozen_row A2
            go_wp2_with fail
            obtain ⟨A9, g9⟩ := four A2 (.int .i64 ap) (.int .i64 nx') (.bool (opn us3)) (.slice ao un3' cc)
            refine hK _ _ g9 ?_
            clear hK K
            try simp only [Act.put, List.setIfInBounds_toArray, List.set_cons_succ, List.set_cons_zero]
            have B := B.grown g9 B.size (fun k e => by cases e; omega)
            have ot := ot.kept g9 (own_ne ot A2 (by decide))
            have o8 := o8.kept g9 (own_ne o8 A2 (by decide))
            clear z0 z1 z2 z3 fz g9 A2
            generalize (((V4.setCell ⟨w.heap.size + 1 + 1, 0, none⟩ (.int .i64 ap)).setCell ⟨w.heap.size + 1 + 1, 1, none⟩ (.int .i64 nx')).setCell ⟨w.heap.size + 1 + 1, 2, none⟩ (.bool (opn us3))).setCell ⟨w.heap.size + 1 + 1, 3, none⟩ (.slice ao un3' cc) = V7 at *
            repeat (refine wpL_do rfl (fun w' hw' => (by go_simp; rfl)) ?_; simp only [Act.put, List.setIfInBounds_toArray, List.set_cons_succ, List.set_cons_zero])
            refine wpL_nil ?_
            have z0 : V7.cell? ⟨w.heap.size + 1 + 1, 0, none⟩ = some (.int .i64 ap) := by rw [cell_of_row _ _ _ _ _ _ A9]; rfl
            have z1 : V7.cell? ⟨w.heap.size + 1 + 1, 1, none⟩ = some (.int .i64 nx') := by rw [cell_of_row _ _ _ _ _ _ A9]; rfl
            have z2 : V7.cell? ⟨w.heap.size + 1 + 1, 2, none⟩ = some (.bool (opn us3)) := by rw [cell_of_row _ _ _ _ _ _ A9]; rfl
            have z3 : V7.cell? ⟨w.heap.size + 1 + 1, 3, none⟩ = some (.slice ao un3' cc) := by rw [cell_of_row _ _ _ _ _ _ A9]; rfl
            go_wp2_with fail
            refine bodyPost_ret (by simp only [results, Try.results10, go_sem]; simp [go_sem, z0, z1, z2, z3]; rfl) rfl ?_
            rw [← Hus1.out, ← Hus2.out, ← Hus3.out, ← Hgt.out]
            exact ⟨ao, ta, un3', cc, tn, tc, ls, by rw [← Hnx.out], o8, ot, B⟩
end Go.Proofs.Ytbclokglkcbmkaa
