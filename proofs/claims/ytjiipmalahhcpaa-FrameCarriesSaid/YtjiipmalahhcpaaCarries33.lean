/- FrameTurns: the jobs that came in. -/
import Derived.Test.YtjiipmalahhcpaaCarries18
import Derived.Test.YtjiipmalahhcpaaCarries32
import Derived.Test.YtjiipmalahhcpaaRows
import Derived.WalkKit
import Derived.ProofKit
import Derived.OpenShut
import Derived.ShutString
import Derived.ChangeOld
import Derived.Below
import Derived.SizedLaws
namespace Go.Proofs.Ytjiipmalahhcpaa
open Go.ChangeShapes Go.WideShapes Go.ChangeAt Go.RowKit
set_option linter.unusedVariables false

def isJob (cs : List Value) (r : Job) : Prop := cs = [.int .i64 r.put, .int .i64 r.ch, .int .i64 r.lg, .bool r.lost] ∧ InI r.put ∧ InI r.ch ∧ InI r.lg
theorem ini_of {z : Int} (h : (Lit.int .i64 z).wf = true) : InI z := by
  have := bounds_i64 h
  unfold InI
  omega
theorem one_job {H : Type} {enc : TypeId × Value → H} {w : World} (cs : List Value) (fuel : Nat) (x : DataW H × List MemPlace)
    (h : DataW.trod enc Try.prog w 0 (fun _ => true) true fuel 32 cs = some x) : ∃ r, isJob cs r := by
  obtain ⟨xs, n, _, _, hl, hlen, hf⟩ := DataW.trod_struct Try.underlying32 h
  rw [show Try.prog.cellsOf 32 = 4 from by kernel_rfl] at hl
  have g : ∀ i (hi : i < xs.length), xs[i]? = some xs[i] := fun i hi => List.getElem?_eq_getElem hi
  have hlen : xs.length = 4 := hlen
  have f0 : DataW.trod enc Try.prog w 0 (fun _ => true) true n 3 ((cs.drop 0).take (Try.prog.cellsOf 3)) = _ := (hf 0 _ rfl).trans (g 0 (by omega))
  have f1 : DataW.trod enc Try.prog w 0 (fun _ => true) true n 3 ((cs.drop 1).take (Try.prog.cellsOf 3)) = _ := (hf 1 _ rfl).trans (g 1 (by omega))
  have f2 : DataW.trod enc Try.prog w 0 (fun _ => true) true n 3 ((cs.drop 2).take (Try.prog.cellsOf 3)) = _ := (hf 2 _ rfl).trans (g 2 (by omega))
  have f3 : DataW.trod enc Try.prog w 0 (fun _ => true) true n 4 ((cs.drop 3).take (Try.prog.cellsOf 4)) = _ := (hf 3 _ rfl).trans (g 3 (by omega))
  simp only [show Try.prog.cellsOf 4 = 1 from by kernel_rfl, show Try.prog.cellsOf 3 = 1 from by kernel_rfl] at f0 f1 f2 f3
  obtain ⟨z0, e0, _, w0⟩ := DataW.trod_int Try.underlying3 f0
  obtain ⟨z1, e1, _, w1⟩ := DataW.trod_int Try.underlying3 f1
  obtain ⟨z2, e2, _, w2⟩ := DataW.trod_int Try.underlying3 f2
  obtain ⟨b3, e3, _⟩ := DataW.trod_bool Try.underlying4 f3
  have hcs : cs = [.int .i64 z0, .int .i64 z1, .int .i64 z2, .bool b3] := by
    clear w0 w1 w2 hf f0 f1 f2 f3 h
    match cs, hl with
    | [c0, c1, c2, c3], _ =>
      simp at e0 e1 e2 e3
      subst e0 e1 e2 e3
      rfl
  exact ⟨⟨z0, z1, z2, b3⟩, hcs, ini_of w0, ini_of w1, ini_of w2⟩
theorem opened_jobs {H : Type} {enc : TypeId × Value → H} {w : World} {d : DataW H} {p : List MemPlace} {a : Option Addr} {len cap : Nat}
    (h : DataW.Trod enc Try.prog w 0 (fun _ => true) true 22 (.slice a len cap) d p) :
    ∃ f, RdJ w a len cap f ∧ (len = 0 ∨ ∃ es sp, d = .slice es sp ∧ es.length = len) := by
  obtain ⟨cs, f, hR, hz⟩ := opened_row isJob Try.underlying22 (by kernel_rfl) (by decide : 0 < 4) one_job h
  refine ⟨f, ⟨hR.le, hR.max, fun hn => ?_, fun j hj => (hR.each j hj).2.2⟩, hz⟩
  obtain ⟨b, off, h1, h2, h3⟩ := hR.mem hn
  refine ⟨b, off, h1, h2, fun j hj => ?_⟩
  have hc : cs j = _ := (hR.each j hj).2.1
  have hk := h3 j hj
  rw [hc] at hk
  exact ⟨hk 0 _ rfl, hk 1 _ rfl, hk 2 _ rfl, hk 3 _ rfl⟩
end Go.Proofs.Ytjiipmalahhcpaa
/- FrameCarries: the frame of the claim (printed by wip/frame.py); the walk is in CarM. -/
namespace Go.Proofs.Ytjiipmalahhcpaa.frameCarries
open Go.ChangeShapes Go.WideShapes Go.ChangeAt Go.RowKit
open Go.ChangeMaps (open_string shut_string)
set_option linter.unusedVariables false

theorem own : ownKnob Try.prog.godebug = none := by kernel_rfl
theorem laidOut : laidOutB Try.prog = true := by kernel_rfl
set_option maxRecDepth 100000 in
theorem lifted (os : Os) (started : os.Started) (H : Type) (enc : TypeId × Value → H) :
    ReturnsInHanded {} Try.checked os 4 .any (Rows.frameCarriesSpec.pre6 enc Try.prog Try.f4 Rows.frameCarriesRow.domain false) (Rows.frameCarriesSpec.post enc Try.prog Try.f4 false true false false) := by
  refine returnsInHanded_of_change_sized (C := Try.checked) own started (by kernel_rfl) Try.func4
    (ChangeSpec.witness6 (enc := enc) (C := Try.checked) false ⟨#[], #[.int .i64 0, .slice none 0 0], []⟩ 8 (by kernel_rfl) (by kernel_rfl) (by kernel_rfl) (by kernel_rfl)) ?_
  intro W base args ds gs before hval0 hW hcnd hsz0 _
  have hsz : (DataW.weightsEach Try.prog (Try.f4.params.toList ++ Rows.frameCarriesSpec.plain.varTypes Try.prog) (ds ++ gs)).all (· ≤ reachBytes) = true := hsz0
  have hval : ∀ (j : Nat) t v, Try.f4.params[j]? = some t → args[j]? = some v → Value.okWide Try.prog W .any base t v := hval0
  have hW' := hW
  obtain ⟨p, q, hA0, hV, rfl, hfz, hnd⟩ := hW
  have hA : DataW.TrodAll enc Try.prog W 0 (fun _ => true) true Try.f4.params.toList args.toList ds p := hA0
  rw [Try.params4] at hA hval hsz
  obtain ⟨v0, vs0, d0, ds0, p0, q0, hargs, rfl, rfl, h0, r0⟩ := trodAll_cons hA
  obtain ⟨v1, vs1, d1, ds1, p1, q1, rfl, rfl, rfl, h1, r1⟩ := trodAll_cons r0
  obtain ⟨rfl, rfl, rfl⟩ := trodAll_nil r1
  obtain rfl : args = #[v0, v1] := by cases args; simp_all
  obtain ⟨rfl, rfl⟩ := trodVars_none hV
  have k0 := h0
  have lt0 : ∀ x ∈ p0, x.block < W.heap.size := by obtain ⟨m, hm⟩ := k0; exact DataW.trod_lt m _ _ _ hm
  obtain ⟨a0, rfl, rfl, rfl, w0⟩ := open_int Try.underlying3 (hval 0 3 v0 rfl rfl) h0
  have k1 := h1
  have lt1 : ∀ x ∈ p1, x.block < W.heap.size := by obtain ⟨m, hm⟩ := k1; exact DataW.trod_lt m _ _ _ hm
  obtain ⟨a1, len1, cap1, rfl⟩ := okWide_slice Try.underlying22 (hval 1 22 v1 rfl rfl)
  obtain ⟨b1, rd1, z1⟩ := opened_jobs h1
  have n1 : len1 * Try.prog.bytesOf 32 ≤ reachBytes := by
    rcases z1 with hz | ⟨es, sp, hd, hl⟩
    · rw [hz]; simp
    · subst hd
      have := sized_slice hsz (j := 1) (t := 22) (e := 32) rfl rfl Try.underlying22
      rw [← hl]
      exact Nat.le_trans (Nat.mul_le_mul_right _ (Nat.le_add_right _ _)) this
  rw [show Try.prog.bytesOf 32 = 32 from by kernel_rfl] at n1
  simp only [reachBytes] at n1
  clear hA0 hval0 hsz hsz0
  refine (carries_ok a0 a1 len1 cap1 b1 W (ini_of w0) rd1).mono fun e W' ⟨he, bel⟩ => ?_
  subst he
  exact ⟨_, rfl, _, _, _, [], _, [], hW', trodAll_mk1 (shut_bool Try.underlying4 _), (trodAll_cons_mk (Below.trod laidOut (by kernel_rfl) (of_decide_eq_true (by kernel_rfl)) k0 bel lt0) (trodAll_cons_mk (Below.trod laidOut (by kernel_rfl) (of_decide_eq_true (by kernel_rfl)) k1 bel lt1) trodAll_mk0)), rfl, bel.frame _, fun h => by cases h⟩

theorem over : Rows.frameCarriesRow.holds Try.pinned (OpenSpec.ofChange Rows.frameCarriesSpec) :=
  OpenClaim.holds_of_wide 4 Try.f4 rfl rfl rfl rfl rfl rfl rfl ⟨rfl, rfl, rfl, rfl, rfl⟩ rfl rfl rfl rfl rfl (by kernel_rfl) Try.func4 (by kernel_rfl)
    (of_decide_eq_true (by kernel_rfl)) (by unfold Func.isWrapper; first | (rw [if_pos (by decide +kernel)]; kernel_rfl) | (rw [if_neg (by decide +kernel)]; exact ⟨rfl, rfl⟩))
    (fun os started H enc _ => lifted os started H enc)

/-- the statement -/
theorem proved : Rows.FrameCarriesSaid := over
#print axioms proved
end Go.Proofs.Ytjiipmalahhcpaa.frameCarries
