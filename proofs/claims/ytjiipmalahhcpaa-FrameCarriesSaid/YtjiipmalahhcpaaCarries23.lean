/- frame: samePacket. -/
import Derived.Test.YtjiipmalahhcpaaCarries22
namespace Go.Proofs.Ytjiipmalahhcpaa
set_option linter.unusedVariables false
open Go.RowKit

def pagg (r : PB) : Value := .agg #[.bool r.2.up, .bool r.2.se, .int .i64 (r.2.ap : Int), .int .i64 (r.2.pt : Int), .int .i64 (r.2.ct : Int), .slice r.1.1 r.1.2.1 r.1.2.2]
set_option maxRecDepth 1000000 in
set_option maxHeartbeats 4000000 in
theorem same_eq (p : PK) (ra sa : Option Addr) (rn rc sn sc : Nat) (W0 : World) (hr : Rd W0 ra rn rc (vb p.ds)) (hs : Rd W0 sa sn sc (vb p.ds)) :
    Calls Try.prog 13 #[pagg ((ra, rn, rc), p), pagg ((sa, sn, sc), p)] W0 fun e w' => e = .returned (.bool true) ∧ Below W0.heap.size W0 w' := by
  obtain ⟨up, se, ap, pt, ct, ds⟩ := p
  dsimp only at hr hs
  unfold pagg
  dsimp only
  have b1 := below_alloc W0 (.cells #[.bool up, .bool se, .int .i64 (ap : Int), .int .i64 (pt : Int), .int .i64 (ct : Int), .slice ra rn rc] 38)
  have r1 := heap_alloc_new W0 (.cells #[.bool up, .bool se, .int .i64 (ap : Int), .int .i64 (pt : Int), .int .i64 (ct : Int), .slice ra rn rc] 38)
  have z1 : Hid ((W0.alloc (.cells #[.bool up, .bool se, .int .i64 (ap : Int), .int .i64 (pt : Int), .int .i64 (ct : Int), .slice ra rn rc] 38)).heap.size = W0.heap.size + 1) := World.size_alloc _ _
  obtain ⟨P, hP⟩ : ∃ P, P = W0.heap.size := ⟨_, rfl⟩
  rw [← hP] at r1 b1 z1
  have HP := hid hP
  go_enter Try.func13, Try.ntmps13
  refine wp_seq_k (fun K0 hK0 => ?_)
  go_wp2_with fail
  rw [← HP.out]
  refine hK0.out _ _ ?_
  have hr1 := hr.below' (Nat.le_of_eq hP.symm) b1
  have hs1 := hs.below' (Nat.le_of_eq hP.symm) b1
  clear hP hr hs
  generalize W0.alloc (.cells #[.bool up, .bool se, .int .i64 (ap : Int), .int .i64 (pt : Int), .int .i64 (ct : Int), .slice ra rn rc] 38) = V1 at *
  have b2 := below_alloc V1 (.cells #[.bool up, .bool se, .int .i64 (ap : Int), .int .i64 (pt : Int), .int .i64 (ct : Int), .slice sa sn sc] 38)
  have r2 := heap_alloc_new V1 (.cells #[.bool up, .bool se, .int .i64 (ap : Int), .int .i64 (pt : Int), .int .i64 (ct : Int), .slice sa sn sc] 38)
  rw [z1.out] at r2
  try rw [z1.out]
  have R1 := hid (row_below r1 b2)
  have R2 := hid r2
  have B2 := hid (b1.trans (b2.mono (by rw [z1.out]; exact Nat.le_succ _)))
  have k1 := run_str (P := Try.prog) 33 5 9 Try.underlying33 Try.underlying5 Try.underlying9 (hr1.below b2)
  have k2 := run_str (P := Try.prog) 33 5 9 Try.underlying33 Try.underlying5 Try.underlying9 (hs1.below b2)
  clear b1 b2 r1 r2 hr1 hs1
  generalize V1.alloc (.cells #[.bool up, .bool se, .int .i64 (ap : Int), .int .i64 (pt : Int), .int .i64 (ct : Int), .slice sa sn sc] 38) = V2 at *
  have p0 : V2.cell? ⟨P, 0, none⟩ = some (.bool up) := by rw [cell_of_row _ _ _ _ _ _ R1.out]; rfl
  have p1 : V2.cell? ⟨P, 1, none⟩ = some (.bool se) := by rw [cell_of_row _ _ _ _ _ _ R1.out]; rfl
  have p2 : V2.cell? ⟨P, 2, none⟩ = some (.int .i64 (ap : Int)) := by rw [cell_of_row _ _ _ _ _ _ R1.out]; rfl
  have p3 : V2.cell? ⟨P, 3, none⟩ = some (.int .i64 (pt : Int)) := by rw [cell_of_row _ _ _ _ _ _ R1.out]; rfl
  have p4 : V2.cell? ⟨P, 4, none⟩ = some (.int .i64 (ct : Int)) := by rw [cell_of_row _ _ _ _ _ _ R1.out]; rfl
  have p5 : V2.cell? ⟨P, 5, none⟩ = some (.slice ra rn rc) := by rw [cell_of_row _ _ _ _ _ _ R1.out]; rfl
  have t0 : V2.cell? ⟨P + 1, 0, none⟩ = some (.bool up) := by rw [cell_of_row _ _ _ _ _ _ R2.out]; rfl
  have t1 : V2.cell? ⟨P + 1, 1, none⟩ = some (.bool se) := by rw [cell_of_row _ _ _ _ _ _ R2.out]; rfl
  have t2 : V2.cell? ⟨P + 1, 2, none⟩ = some (.int .i64 (ap : Int)) := by rw [cell_of_row _ _ _ _ _ _ R2.out]; rfl
  have t3 : V2.cell? ⟨P + 1, 3, none⟩ = some (.int .i64 (pt : Int)) := by rw [cell_of_row _ _ _ _ _ _ R2.out]; rfl
  have t4 : V2.cell? ⟨P + 1, 4, none⟩ = some (.int .i64 (ct : Int)) := by rw [cell_of_row _ _ _ _ _ _ R2.out]; rfl
  have t5 : V2.cell? ⟨P + 1, 5, none⟩ = some (.slice sa sn sc) := by rw [cell_of_row _ _ _ _ _ _ R2.out]; rfl
  generalize strB ds = str at *
  go_wp2_with fail
  go_ret
  refine ⟨?_, by rw [← HP.out]; exact B2.out⟩
  simp
end Go.Proofs.Ytjiipmalahhcpaa
/- frame: samePacket: of different packets. -/
namespace Go.Proofs.Ytjiipmalahhcpaa
set_option linter.unusedVariables false
open Go.RowKit

set_option maxRecDepth 1000000 in
set_option maxHeartbeats 4000000 in
theorem same_ne (up se : Bool) (ap ap2 pt ct ct2 : Nat) (ds ds2 : List Nat) (ra sa : Option Addr) (rn rc sn sc : Nat) (W0 : World) (hr : Rd W0 ra rn rc (vb ds)) (hs : Rd W0 sa sn sc (vb ds2)) (hne : ct ≠ ct2) :
    Calls Try.prog 13 #[pagg ((ra, rn, rc), ⟨up, se, ap, pt, ct, ds⟩), pagg ((sa, sn, sc), ⟨up, se, ap2, pt, ct2, ds2⟩)] W0 fun e w' => e = .returned (.bool false) ∧ Below W0.heap.size W0 w' := by
  unfold pagg
  dsimp only
  have b1 := below_alloc W0 (.cells #[.bool up, .bool se, .int .i64 (ap : Int), .int .i64 (pt : Int), .int .i64 (ct : Int), .slice ra rn rc] 38)
  have r1 := heap_alloc_new W0 (.cells #[.bool up, .bool se, .int .i64 (ap : Int), .int .i64 (pt : Int), .int .i64 (ct : Int), .slice ra rn rc] 38)
  have z1 : Hid ((W0.alloc (.cells #[.bool up, .bool se, .int .i64 (ap : Int), .int .i64 (pt : Int), .int .i64 (ct : Int), .slice ra rn rc] 38)).heap.size = W0.heap.size + 1) := World.size_alloc _ _
  obtain ⟨P, hP⟩ : ∃ P, P = W0.heap.size := ⟨_, rfl⟩
  rw [← hP] at r1 b1 z1
  have HP := hid hP
  go_enter Try.func13, Try.ntmps13
  refine wp_seq_k (fun K0 hK0 => ?_)
  go_wp2_with fail
  rw [← HP.out]
  refine hK0.out _ _ ?_
  have hr1 := hr.below' (Nat.le_of_eq hP.symm) b1
  have hs1 := hs.below' (Nat.le_of_eq hP.symm) b1
  clear hP hr hs
  generalize W0.alloc (.cells #[.bool up, .bool se, .int .i64 (ap : Int), .int .i64 (pt : Int), .int .i64 (ct : Int), .slice ra rn rc] 38) = V1 at *
  have b2 := below_alloc V1 (.cells #[.bool up, .bool se, .int .i64 (ap2 : Int), .int .i64 (pt : Int), .int .i64 (ct2 : Int), .slice sa sn sc] 38)
  have r2 := heap_alloc_new V1 (.cells #[.bool up, .bool se, .int .i64 (ap2 : Int), .int .i64 (pt : Int), .int .i64 (ct2 : Int), .slice sa sn sc] 38)
  rw [z1.out] at r2
  try rw [z1.out]
  have R1 := hid (row_below r1 b2)
  have R2 := hid r2
  have B2 := hid (b1.trans (b2.mono (by rw [z1.out]; exact Nat.le_succ _)))
  have k1 := run_str (P := Try.prog) 33 5 9 Try.underlying33 Try.underlying5 Try.underlying9 (hr1.below b2)
  have k2 := run_str (P := Try.prog) 33 5 9 Try.underlying33 Try.underlying5 Try.underlying9 (hs1.below b2)
  clear b1 b2 r1 r2 hr1 hs1
  generalize V1.alloc (.cells #[.bool up, .bool se, .int .i64 (ap2 : Int), .int .i64 (pt : Int), .int .i64 (ct2 : Int), .slice sa sn sc] 38) = V2 at *
  have p0 : V2.cell? ⟨P, 0, none⟩ = some (.bool up) := by rw [cell_of_row _ _ _ _ _ _ R1.out]; rfl
  have p1 : V2.cell? ⟨P, 1, none⟩ = some (.bool se) := by rw [cell_of_row _ _ _ _ _ _ R1.out]; rfl
  have p2 : V2.cell? ⟨P, 2, none⟩ = some (.int .i64 (ap : Int)) := by rw [cell_of_row _ _ _ _ _ _ R1.out]; rfl
  have p3 : V2.cell? ⟨P, 3, none⟩ = some (.int .i64 (pt : Int)) := by rw [cell_of_row _ _ _ _ _ _ R1.out]; rfl
  have p4 : V2.cell? ⟨P, 4, none⟩ = some (.int .i64 (ct : Int)) := by rw [cell_of_row _ _ _ _ _ _ R1.out]; rfl
  have p5 : V2.cell? ⟨P, 5, none⟩ = some (.slice ra rn rc) := by rw [cell_of_row _ _ _ _ _ _ R1.out]; rfl
  have t0 : V2.cell? ⟨P + 1, 0, none⟩ = some (.bool up) := by rw [cell_of_row _ _ _ _ _ _ R2.out]; rfl
  have t1 : V2.cell? ⟨P + 1, 1, none⟩ = some (.bool se) := by rw [cell_of_row _ _ _ _ _ _ R2.out]; rfl
  have t2 : V2.cell? ⟨P + 1, 2, none⟩ = some (.int .i64 (ap2 : Int)) := by rw [cell_of_row _ _ _ _ _ _ R2.out]; rfl
  have t3 : V2.cell? ⟨P + 1, 3, none⟩ = some (.int .i64 (pt : Int)) := by rw [cell_of_row _ _ _ _ _ _ R2.out]; rfl
  have t4 : V2.cell? ⟨P + 1, 4, none⟩ = some (.int .i64 (ct2 : Int)) := by rw [cell_of_row _ _ _ _ _ _ R2.out]; rfl
  have t5 : V2.cell? ⟨P + 1, 5, none⟩ = some (.slice sa sn sc) := by rw [cell_of_row _ _ _ _ _ _ R2.out]; rfl
  generalize strB ds = str at *
  generalize strB ds2 = str2 at *
  have e1 : ((ct : Int) == (ct2 : Int)) = false := by rw [beq_eq_false_iff_ne]; omega
  have e2 : decide ((ct : Int) = (ct2 : Int)) = false := decide_eq_false (by omega)
  have e3 : (ct == ct2) = false := by rw [beq_eq_false_iff_ne]; exact hne
  by_cases ha : ap = ap2
  · subst ha
    go_wp2_with fail
    go_ret
    exact ⟨rfl, by rw [← HP.out]; exact B2.out⟩
  · have a1 : ((ap : Int) == (ap2 : Int)) = false := by rw [beq_eq_false_iff_ne]; omega
    have a2 : decide ((ap : Int) = (ap2 : Int)) = false := decide_eq_false (by omega)
    have a3 : (ap == ap2) = false := by rw [beq_eq_false_iff_ne]; exact ha
    go_wp2_with fail
    go_ret
    exact ⟨rfl, by rw [← HP.out]; exact B2.out⟩
end Go.Proofs.Ytjiipmalahhcpaa
/- frame: Hear: its memory. -/
namespace Go.Proofs.Ytjiipmalahhcpaa
set_option linter.unusedVariables false
open Go.RowKit

/-- what Hear has in memory -/
structure HM (W : World) (P H eb ec cr sz : Nat) (ms : Int) (hcr ch ma ow fi : Nat) (e : Nat → ES) (da : Option Addr) (dn dc : Nat) (ds : List Nat) : Prop where
  bx : W.heap[P]? = some (.cells #[.int .i64 (cr : Int), .int .i64 (sz : Int), .int .i64 ms, .slice (some ⟨eb, 0, none⟩) 7 ec] 52)
  rs : W.heap[P + 1]? = some (.cells #[.int .i64 0, .int .i64 0, .int .i64 0, .slice none 0 0] 52)
  hd : W.heap[H]? = some (.cells #[.int .i64 (hcr : Int), .int .i64 (ch : Int), .int .i64 (ma : Int), .int .i64 (ow : Int), .int .i64 (fi : Int)] 46)
  er : EB7 W eb e
  rd : ∀ c, c < 7 → RdT 5 W (e c).ra (e c).rn (e c).rc (vb (e c).rs)
  dt : RdT 5 W da dn dc (vb ds)
theorem HM.below {W W' : World} {P H eb ec cr sz : Nat} {ms : Int} {hcr ch ma ow fi : Nat} {e : Nat → ES} {da : Option Addr} {dn dc : Nat} {ds : List Nat} (h : HM W P H eb ec cr sz ms hcr ch ma ow fi e da dn dc ds) (hb : Below W.heap.size W W') : HM W' P H eb ec cr sz ms hcr ch ma ow fi e da dn dc ds :=
  ⟨row_below h.bx hb, row_below h.rs hb, row_below h.hd hb, h.er.below hb, fun c hc => (h.rd c hc).below hb, h.dt.below hb⟩
theorem HM.box {W W' : World} {P H eb ec cr sz : Nat} {ms ms' : Int} {hcr ch ma ow fi : Nat} {e : Nat → ES} {da : Option Addr} {dn dc : Nat} {ds : List Nat} (h : HM W P H eb ec cr sz ms hcr ch ma ow fi e da dn dc ds) (hg : W.grownBy W' (some P))
    (hn : W'.heap[P]? = some (.cells #[.int .i64 (cr : Int), .int .i64 (sz : Int), .int .i64 ms', .slice (some ⟨eb, 0, none⟩) 7 ec] 52)) : HM W' P H eb ec cr sz ms' hcr ch ma ow fi e da dn dc ds :=
  ⟨hn, row_grown h.rs hg (Nat.succ_ne_self P), row_grown h.hd hg (ne_tt h.hd h.bx (by decide)), h.er.other hg h.bx (by decide), fun c hc => (h.rd c hc).other hg h.bx (by decide), h.dt.other hg h.bx (by decide)⟩
theorem HM.ear {W W' : World} {P H eb ec cr sz : Nat} {ms : Int} {hcr ch ma ow fi : Nat} {e e' : Nat → ES} {da : Option Addr} {dn dc : Nat} {ds : List Nat} (h : HM W P H eb ec cr sz ms hcr ch ma ow fi e da dn dc ds) (hg : W.grownBy W' (some eb)) (he : EB7 W' eb e')
    (hr : ∀ c, c < 7 → RdT 5 W (e' c).ra (e' c).rn (e' c).rc (vb (e' c).rs)) : HM W' P H eb ec cr sz ms hcr ch ma ow fi e' da dn dc ds := by
  obtain ⟨cq, hq, _⟩ := h.er.ex
  exact ⟨row_grown h.bx hg (ne_tt h.bx hq (by decide)), row_grown h.rs hg (ne_tt h.rs hq (by decide)), row_grown h.hd hg (ne_tt h.hd hq (by decide)), he, fun c hc => (hr c hc).other hg hq (by decide), h.dt.other hg hq (by decide)⟩
end Go.Proofs.Ytjiipmalahhcpaa
