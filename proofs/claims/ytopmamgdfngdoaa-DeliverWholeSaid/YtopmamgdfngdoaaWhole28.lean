/- deliver: the law, a short file (walk 3). -/
import Derived.Test.YtopmamgdfngdoaaWhole27
import Derived.Test.YtopmamgdfngdoaaWhole2
import Derived.ChangeSlices
import Derived.ChangeArms
import Derived.Deep.Slices
import Derived.Deep.Strs
import Derived.ProofKit
import Derived.ChangeOld
import Derived.Below
namespace Go.Proofs.Ytopmamgdfngdoaa
set_option linter.unusedVariables false
open Go.RowKit

set_option maxRecDepth 1000000 in
set_option maxHeartbeats 800000 in
theorem law_main (fa : Option Addr) (fn fc : Nat) (m b p : Int) (la : Option Addr) (ln lc : Nat) (bs : List Nat) (f : Nat → W5) (w : World) (hl : ln ≤ 60) (hm : in64 m) (hb : in64 b) (hp : in64 p) (hF : Rd w fa fn fc (vb bs)) (hn : fn ≤ 120) (hbs : AllB bs) (hL : RdW w w.heap.size la ln lc f) :
    Calls Try.prog 3 #[.slice fa fn fc, .int .i64 m, .int .i64 b, .int .i64 p, .slice la ln lc] w (LawR w) := by
  obtain ⟨kp, hkp, hp1⟩ := pick_k p 9 hp (by decide) (by decide)
  obtain ⟨km, hkm, hp2⟩ := pick_k m 40 hm (by decide) (by decide)
  obtain ⟨kb, hkb, hp3⟩ := pick_k b 9 hb (by decide) (by decide)
  have hp1 := hid hp1
  have hp2 := hid hp2
  have hp3 := hid hp3
  have ap : IntKind.i64.wrap (1 + (kp : Int)) = ((1 + kp : Nat) : Int) := by rw [IntWalk.i64_in _ (by omega)]; omega
  have am : IntKind.i64.wrap (1 + (km : Int)) = ((1 + km : Nat) : Int) := by rw [IntWalk.i64_in _ (by omega)]; omega
  have ab : IntKind.i64.wrap (1 + (kb : Int)) = ((1 + kb : Nat) : Int) := by rw [IntWalk.i64_in _ (by omega)]; omega
  obtain ⟨p1, hp1e⟩ : ∃ p1, p1 = 1 + kp := ⟨_, rfl⟩
  obtain ⟨m1, hm1e⟩ : ∃ m1, m1 = 1 + km := ⟨_, rfl⟩
  obtain ⟨b1, hb1e⟩ : ∃ b1, b1 = 1 + kb := ⟨_, rfl⟩
  have hpb : 1 ≤ p1 ∧ p1 ≤ 9 := by omega
  have hmb : 1 ≤ m1 ∧ m1 ≤ 40 := by omega
  have hbb : 1 ≤ b1 ∧ b1 ≤ 9 := by omega
  rw [← hp1e] at ap
  rw [← hm1e] at am
  rw [← hb1e] at ab
  clear hp1e hm1e hb1e
  have HF := hid hF
  have HLw := hid hL
  have Hbs := hid hbs
  clear hL hbs
  clear hF hm hb hp hkp hkm hkb
  go_enter Try.func3, Try.ntmps3
  have hlI : ¬ (60 : Int) < (ln : Int) := by omega
  refine wp_seq_k (fun K0 hK0 => ?_)
  go_wp2_with fail
  refine hK0.out _ _ ?_
  refine wp_seq_k (fun K1 hK1 => ?_)
  refine wp_seq_k (fun K2 hK2 => ?_)
  go_wp2_with fail
  refine hK2.out _ _ ?_
  refine wp_cond_false (by show Value.bool (decide ((60 : Int) < (ln : Int))) = _; rw [decide_eq_false (by omega)]) ?_
  go_wp2_with fail
  refine hK1.out _ _ ?_
  refine wp_seq_k (fun K3 hK3 => ?_)
  go_wp2_with ((go_at_call 4; refine (hp1.out _).mono ?_))
  rintro e w' ⟨rfl, hw'⟩
  rw [hw']
  clear hw' w' hp1
  go_wp2_with fail
  refine hK3.out _ _ ?_
  -- Offer
  refine wp_seq_k (fun K4 hK4 => ?_)
  go_wp2_with ((go_at_call 4; refine (hp2.out _).mono ?_))
  rintro e w' ⟨rfl, hw'⟩
  rw [hw']
  clear hw' w' hp2
  go_wp2_with ((go_at_call 4; refine (hp3.out _).mono ?_))
  rintro e w' ⟨rfl, hw'⟩
  rw [hw']
  clear hw' w' hp3
  have hoff : Hid (Calls Try.prog 5 #[.int .i64 7, .string { data := #[108, 111, 103] }, .slice fa fn fc, .int .i64 (m1 : Int), .int .i64 (b1 : Int), .int .i64 (p1 : Int), .int .i64 100] w fun e w' => ∃ cs k a' c', e = .returned (.tuple #[.agg cs, .int .i64 k]) ∧ k = 0 ∧ cs = #[.int .i64 7, .string { data := #[108, 111, 103] }, .slice a' fn c', .int .i64 (m1 : Int), .int .i64 (b1 : Int), .int .i64 0, .bool true, .int .i64 0, .slice none 0 0, .int .i64 0, .int .i64 (p1 : Int), .int .i64 0, .int .i64 100] ∧ Below w.heap.size w w' ∧ w'.ownsRow w.heap.size 5 1 (.slice a' fn c') fn (vb bs)) := by
    refine hid ((offer_ok m1 b1 p1 fa fn fc bs w HF.out (by omega) ⟨hmb.1, by omega⟩ ⟨hbb.1, by omega⟩ ⟨hpb.1, by omega⟩).mono ?_)
    rintro e W ⟨⟨a', c', rfl, ho⟩, hb⟩
    exact ⟨_, 0, a', c', rfl, rfl, rfl, hb, ho⟩
  go_wp2_with ((go_at_call 5; refine hoff.out.mono ?_))
  rintro e W1 ⟨cs, k, a', c', rfl, rfl, hcs, hb1, hown⟩
  have hsz : cs.size = 13 := by rw [hcs]; rfl
  have hone : cs.all (fun x => x.oneCell') = true := by rw [hcs]; simp [Value.oneCell']
  have Hcs := hid hcs
  clear hcs
  clear hoff ab ap am
  have bZ := below_alloc W1 (.cells zg13 28)
  have AZ := heap_alloc_new W1 (.cells zg13 28)
  obtain ⟨z1, z2⟩ := set_whole (cs' := cs) AZ
  have bAll : Below w.heap.size w ((W1.alloc (.cells zg13 28)).setRow W1.heap.size cs) := (hb1.trans (bZ.mono hb1.size)).grown z2 (Nat.le_trans hb1.size bZ.size) (fun j e => by cases e; exact hb1.size)
  have HB := hid bAll
  have HY := hid z1
  have HO := hid (row_kept_own AZ (ownsRow_below hown bZ) z2 (by decide))
  unfold zg13 at *
  clear bAll z1 z2 hb1 bZ hown
  go_wp2_with (with_reducible refine at_store 28 ?_)
  unfold Hid
  refine wpList_store_row rfl 28 _ _ rfl W1.heap.size cs rfl rfl 28 _ AZ (by rw [hsz]; try rfl) (by rw [hsz]; try rfl) hone ?_
  clear AZ
  generalize (W1.alloc (.cells #[.int .i64 0, .string { data := #[] }, .slice none 0 0, .int .i64 0, .int .i64 0, .int .i64 0, .bool false, .int .i64 0, .slice none 0 0, .int .i64 0, .int .i64 0, .int .i64 0, .int .i64 0] 28)).setRow W1.heap.size cs = W2 at *
  generalize W1.heap.size = Y at *
  go_wp2_with fail
  refine hK4.out _ _ ?_
  -- Expect
  have hexp := hid (expect2 p1 W2 hpb.1 (by omega))
  refine wp_seq_k (fun K5 hK5 => ?_)
  go_wp2_with ((go_at_call 6; refine hexp.out.mono ?_))
  rintro e W3 ⟨rfl, hb3⟩
  clear hexp
  obtain ⟨tc, htc⟩ : ∃ tc, tc = e6 p1 := ⟨_, rfl⟩
  rw [← htc]
  have Htc := hid htc
  have htn : tc.size = 14 := by rw [htc]; rfl
  have htone : tc.all (fun x => x.oneCell') = true := by rw [htc]; unfold e6; simp [Value.oneCell']
  clear htc
  have bZ := below_alloc W3 (.cells #[.int .i64 0, .bool false, .string { data := #[] }, .int .i64 0, .bool false, .int .i64 0, .int .i64 0, .slice none 0 0, .slice none 0 0, .int .i64 0, .int .i64 0, .int .i64 0, .int .i64 0, .int .i64 0] 33)
  have AZ := heap_alloc_new W3 (.cells #[.int .i64 0, .bool false, .string { data := #[] }, .int .i64 0, .bool false, .int .i64 0, .int .i64 0, .slice none 0 0, .slice none 0 0, .int .i64 0, .int .i64 0, .int .i64 0, .int .i64 0, .int .i64 0] 33)
  obtain ⟨z1, z2⟩ := set_whole (cs' := tc) AZ
  have hYW : w.heap.size ≤ W3.heap.size := Nat.le_trans HB.out.size hb3.size
  have bAll : Below w.heap.size w ((W3.alloc (.cells #[.int .i64 0, .bool false, .string { data := #[] }, .int .i64 0, .bool false, .int .i64 0, .int .i64 0, .slice none 0 0, .slice none 0 0, .int .i64 0, .int .i64 0, .int .i64 0, .int .i64 0, .int .i64 0] 33)).setRow W3.heap.size tc) := ((HB.out.trans (hb3.mono HB.out.size)).trans (bZ.mono hYW)).grown z2 (Nat.le_trans hYW bZ.size) (fun j e => by cases e; exact hYW)
  have HB2 := hid bAll
  have hZt : W3.heap[W3.heap.size]? = none := Array.getElem?_eq_none (Nat.le_refl _)
  have bZ2 : Below W3.heap.size W3 ((W3.alloc (.cells #[.int .i64 0, .bool false, .string { data := #[] }, .int .i64 0, .bool false, .int .i64 0, .int .i64 0, .slice none 0 0, .slice none 0 0, .int .i64 0, .int .i64 0, .int .i64 0, .int .i64 0, .int .i64 0] 33)).setRow W3.heap.size tc) := bZ.grown z2 bZ.size (fun j e => by cases e; exact Nat.le_refl _)
  have HY2 := hid (row_below (row_below HY.out hb3) bZ2)
  have HO2 := hid (ownsRow_below (ownsRow_below HO.out hb3) bZ2)
  have HZ2 := hid z1
  clear bAll z1 z2 hb3 bZ HB bZ2 hZt HY HO
  go_wp2_with (with_reducible refine at_store 33 ?_)
  unfold Hid
  refine wpList_store_row rfl 33 _ _ rfl W3.heap.size tc rfl rfl 33 _ AZ (by rw [htn]; try rfl) (by rw [htn]; try rfl) htone ?_
  clear AZ
  generalize (W3.alloc (.cells #[.int .i64 0, .bool false, .string { data := #[] }, .int .i64 0, .bool false, .int .i64 0, .int .i64 0, .slice none 0 0, .slice none 0 0, .int .i64 0, .int .i64 0, .int .i64 0, .int .i64 0, .int .i64 0] 33)).setRow W3.heap.size tc = W4 at *
  generalize W3.heap.size = Z at *
  go_wp2_with fail
  refine hK5.out _ _ ?_
  refine wp_seq_k (fun K6 hK6 => ?_)
  refine wp_seq_k (fun K7 hK7 => ?_)
  go_wp2_with fail
  refine hK7.out _ _ ?_
  refine wp_cond_false (by show Value.bool (decide ((120 : Int) < (fn : Int))) = _; rw [decide_eq_false (by omega)]) ?_
  go_wp2_with fail
  refine hK6.out _ _ ?_
  refine wp_seq_k (fun K8 hK8 => ?_)
  refine wp_seq_k (fun K9 hK9 => ?_)
  go_wp2_with fail
  refine hK9.out _ _ ?_
  refine wp_cond_false rfl ?_
  go_wp2_with fail
  refine hK8.out _ _ ?_
  have hY := HY2.out
  have hZ := HZ2.out
  rw [Hcs.out] at hY
  rw [Htc.out] at hZ
  unfold e6 at hZ
  refine wp_seq_k (fun K10 hK10 => ?_)
  go_wp2_with (first | (with_reducible refine wpList_load_row (o := ⟨some 61, _, _, _, _, _⟩) rfl 28 _ rfl Y rfl 28 _ _ _ hY Try.underlying28 rfl (by kernel_rfl) ?_) | (with_reducible refine wpList_load_row (o := ⟨some 62, _, _, _, _, _⟩) rfl 33 _ rfl Z rfl 33 _ _ _ hZ Try.underlying33 rfl (by kernel_rfl) ?_))
  refine hK10.out _ _ ?_
  have hblen : bs.length = fn := by have := HF.out.len; rwa [vb_len] at this
  have hsr := sumU_rng bs (List.range (pieces fn 4))
  have hD : DOk ⟨⟨fn, m1, b1, p1⟩, bs, (sumU bs (List.range (pieces fn 4))).toNat⟩ := ⟨⟨hn, hmb.1, hbb.1, hbb.2, hpb.1, hpb.2⟩, hmb.2, hblen, Hbs.out, by show (sumU bs (List.range (pieces fn 4))).toNat ≤ _; omega⟩
  have hSum : SumOk ⟨⟨fn, m1, b1, p1⟩, bs, (sumU bs (List.range (pieces fn 4))).toNat⟩ := fun W a n c hr => by
    have hnl : n = fn := by have := hr.rd.len; rw [vb_len] at this; exact this.symm.trans hblen
    subst hnl
    refine (sum60 a n c bs W hr.rd Hbs.out (by omega)).mono ?_
    rintro e W' ⟨rfl, hb⟩
    refine ⟨?_, hb⟩
    show Ending.returned (.int .i64 _) = Ending.returned (.int .i64 (((sumU bs (List.range (pieces n 4))).toNat : Nat) : Int))
    rw [Int.toNat_of_nonneg hsr.1]
  have bX := below_alloc W4 (.cells #[.int .i64 7, .string { data := #[108, 111, 103] }, .slice a' fn c', .int .i64 (m1 : Int), .int .i64 (b1 : Int), .int .i64 0, .bool true, .int .i64 0, .slice none 0 0, .int .i64 0, .int .i64 (p1 : Int), .int .i64 0, .int .i64 100, .int .i64 7, .bool false, .string { data := #[] }, .int .i64 0, .bool false, .int .i64 0, .int .i64 0, .slice none 0 0, .slice none 0 0, .int .i64 0, .int .i64 0, .int .i64 (p1 : Int), .int .i64 0, .int .i64 100, .slice none 0 0, .slice none 0 0] 39)
  have AX := heap_alloc_new W4 (.cells #[.int .i64 7, .string { data := #[108, 111, 103] }, .slice a' fn c', .int .i64 (m1 : Int), .int .i64 (b1 : Int), .int .i64 0, .bool true, .int .i64 0, .slice none 0 0, .int .i64 0, .int .i64 (p1 : Int), .int .i64 0, .int .i64 100, .int .i64 7, .bool false, .string { data := #[] }, .int .i64 0, .bool false, .int .i64 0, .int .i64 0, .slice none 0 0, .slice none 0 0, .int .i64 0, .int .i64 0, .int .i64 (p1 : Int), .int .i64 0, .int .i64 100, .slice none 0 0, .slice none 0 0] 39)
  have hown4 := ownsRow_below HO2.out bX
  have hCB : CB ⟨⟨fn, m1, b1, p1⟩, bs, (sumU bs (List.range (pieces fn 4))).toNat⟩ _ W4.heap.size w.heap.size cs0.g cs0.t ⟨a', c', none, 0, none, 0, none, 0, none, 0, [], none, 0, []⟩ :=
    ⟨AX, ⟨RdT.ofOwn hown4, RdS.nil _⟩, ⟨RdT.nil 5 _, RdS.nil _⟩, ⟨World.ownsRow_nil _ _ _ _, (fun b hb => by cases hb), (fun b hb => by cases hb)⟩, ⟨World.ownsRow_nil _ _ _ _, (fun b hb => by cases hb), (fun b hb => by cases hb)⟩, (fun n h => by cases h), HB2.out.size⟩
  have hbw : Below w.heap.size w _ := HB2.out.trans (bX.mono HB2.out.size)
  refine wp_seq_k (fun K11 hK11 => ?_)
  refine wp_fr168 rfl ?_
  refine law_loop _ hD hSum w W4.heap.size ln lc fa fc la f hl HLw.out HF.out _ ?_ _ _ _ rfl rfl rfl hCB rfl rfl hbw
  intro y' W' hbl h10
  refine bodyPost_ret (results_tmp (fn := Try.f3) rfl _ _ _) rfl ?_
  refine ⟨?_, hbl⟩
  show Ending.returned ((fr 168 y').getD 10 undef) = _
  rw [fr_at 168 y' 10 (by decide), h10]
theorem law_ok (fa : Option Addr) (fn fc : Nat) (m b p : Int) (la : Option Addr) (ln lc : Nat) (bs : List Nat) (f : Nat → W5) (w : World) (hm : in64 m) (hb : in64 b) (hp : in64 p) (hF : Rd w fa fn fc (vb bs)) (hbs : AllB bs) (hL : RdW w w.heap.size la ln lc f) :
    Calls Try.prog 3 #[.slice fa fn fc, .int .i64 m, .int .i64 b, .int .i64 p, .slice la ln lc] w fun e W => e = .returned (.bool true) ∧ Below w.heap.size w W := by
  by_cases hl : 60 < ln
  · exact law_60 fa fn fc m b p la ln lc w hl
  · by_cases hn : fn ≤ 120
    · exact law_main fa fn fc m b p la ln lc bs f w (by omega) hm hb hp hF hn hbs hL
    · exact law_120 fa fn fc m b p la ln lc bs w (by omega) hm hb hp hF (by omega)
end Go.Proofs.Ytopmamgdfngdoaa
/- What the frame hands over, opened: slices of bytes, of ints, of pairs of ints. -/
namespace Go.Proofs.Ytopmamgdfngdoaa
open Go.ChangeShapes Go.WideShapes Go.ChangeAt Go.RowKit
set_option linter.unusedVariables false

theorem spot_of_cell {w : World} {x : Addr} {v : Value} (h : w.cell? (x.add 0) = some v) : ∃ b off, x = ⟨b, off, none⟩ ∧ b < w.heap.size := by
  have hspot := World.cell?_spot h
  obtain ⟨b, off, spot⟩ := x
  have hsp : spot = none := by
    cases spot with
    | none => rfl
    | some s => simp [Addr.add] at hspot
  subst hsp
  refine ⟨b, off, rfl, ?_⟩
  rw [Addr.add_lit] at h
  exact World.block_lt_of_cell? w _ h

/-- a slice of ints of a kind, that the frame opened -/
theorem opened_ints {H : Type} {P : Program} {enc : TypeId × Value → H} {w : World} {t e : TypeId} {k : IntKind} {d : DataW H} {p : List MemPlace} {a : Option Addr} {len cap : Nat}
    (ht : P.underlying t = some (.slice e)) (he : P.underlying e = some (.int k)) (hc : P.cellsOf e = 1) (h : DataW.Trod enc P w 0 (fun _ => true) true t (.slice a len cap) d p) :
    ∃ zs : List Int, ((a = none ∧ len = 0 ∧ cap = 0 ∧ zs = []) ∨ ∃ x, a = some x ∧ len ≤ cap ∧ cap ≤ maxLen ∧ zs.length = cap ∧ (∀ i, i < zs.length → w.cell? (x.add i) = some (.int k (zs.getD i 0))) ∧ ∀ n ∈ zs, (Lit.int k n).wf = true) ∧
      (len = 0 ∨ ∃ es sp, d = .slice es sp ∧ es.length = len) := by
  obtain ⟨fuel, hf⟩ := h
  rcases open_ints ht he hc hf with ⟨hcs, _⟩ | ⟨x, l, c, zs, hcs, _, hl, hm, hz, hd, hcell, hwz⟩
  · simp [Value.cells] at hcs
    obtain ⟨rfl, rfl, rfl⟩ := hcs
    exact ⟨[], .inl ⟨rfl, rfl, rfl, rfl⟩, .inl rfl⟩
  · simp [Value.cells] at hcs
    obtain ⟨rfl, rfl, rfl⟩ := hcs
    have hz' : zs.length = cap := by simpa using hz
    refine ⟨zs, .inr ⟨_, rfl, hl, hm, hz', hcell, hwz⟩, .inr ⟨_, _, (Prod.mk.inj hd).1, ?_⟩⟩
    simp [lits]
    omega

/-- bytes -/
theorem opened_bytes {H : Type} {P : Program} {enc : TypeId × Value → H} {w : World} {t e : TypeId} {d : DataW H} {p : List MemPlace} {a : Option Addr} {len cap : Nat}
    (ht : P.underlying t = some (.slice e)) (he : P.underlying e = some (.int .u8)) (hc : P.cellsOf e = 1) (h : DataW.Trod enc P w 0 (fun _ => true) true t (.slice a len cap) d p) :
    ∃ bs, Rd w a len cap (vb bs) ∧ AllB bs ∧ (len = 0 ∨ ∃ es sp, d = .slice es sp ∧ es.length = len) := by
  obtain ⟨zs, h1, h2⟩ := opened_ints ht he hc h
  obtain ⟨bs, hr, hb⟩ := rd_of_row h1
  exact ⟨bs, hr, hb, h2⟩

/-- pairs of ints -/
theorem opened_pairs {H : Type} {P : Program} {enc : TypeId × Value → H} {w : World} {t e i : TypeId} {f0 f1 : Field} {d : DataW H} {p : List MemPlace} {a : Option Addr} {len cap : Nat}
    (ht : P.underlying t = some (.slice e)) (he : P.underlying e = some (.struct #[f0, f1])) (hi : P.underlying i = some (.int .i64)) (h0 : f0.type = i) (h1 : f1.type = i) (o0 : f0.offset = 0) (o1 : f1.offset = 1)
    (hc : P.cellsOf e = 2) (hci : P.cellsOf i = 1) (h : DataW.Trod enc P w 0 (fun _ => true) true t (.slice a len cap) d p) :
    ∃ ts : Nat → Int × Int, len ≤ cap ∧ cap ≤ maxLen ∧ (0 < len → ∃ b off, a = some ⟨b, off, none⟩ ∧ b < w.heap.size ∧ ∀ j, j < len → w.cell? ⟨b, off + j * 2, none⟩ = some (.int .i64 (ts j).1) ∧ w.cell? ⟨b, off + j * 2 + 1, none⟩ = some (.int .i64 (ts j).2)) ∧
      (∀ j, j < len → -9223372036854775808 ≤ (ts j).1 ∧ (ts j).1 ≤ 9223372036854775807 ∧ -9223372036854775808 ≤ (ts j).2 ∧ (ts j).2 ≤ 9223372036854775807) ∧
      (len = 0 ∨ ∃ es sp, d = .slice es sp ∧ es.length = len) := by
  obtain ⟨fuel, hf⟩ := h
  rcases Go.Deep.open_slice ht hf with ⟨hcs, _⟩ | ⟨x, l, c, m, n, D, Pl, hcs, _, hl, hm, hmm, hd, hx⟩
  · simp [Value.cells] at hcs
    obtain ⟨rfl, rfl, rfl⟩ := hcs
    exact ⟨fun _ => (0, 0), Nat.le_refl _, Nat.zero_le _, fun h => absurd h (by omega), fun j hj => absurd hj (by omega), .inl rfl⟩
  · simp [Value.cells] at hcs
    obtain ⟨rfl, rfl, rfl⟩ := hcs
    have hm' : m = cap := by simpa using hmm
    subst hm'
    have each : ∀ j, j < m → ∃ t : Int × Int, w.cell? (x.add (j * 2)) = some (.int .i64 t.1) ∧ w.cell? (x.add (j * 2 + 1)) = some (.int .i64 t.2) ∧ (Lit.int .i64 t.1).wf = true ∧ (Lit.int .i64 t.2).wf = true := by
      intro j hj
      obtain ⟨cs, hcs, htr⟩ := hx j hj
      rw [hc] at hcs
      obtain ⟨_, hlen, hget⟩ := World.cells?_some hcs
      obtain ⟨y0, y1, n', _, _, e0, e1⟩ := trod_struct2 he htr
      rw [h0, hci, o0] at e0
      rw [h1, hci, o1] at e1
      obtain ⟨z0, hz0, _, hw0⟩ := DataW.trod_int hi e0
      obtain ⟨z1, hz1, _, hw1⟩ := DataW.trod_int hi e1
      match cs, hlen with
      | [c0, c1], _ =>
        simp at hz0 hz1
        subst hz0 hz1
        have g0 := hget 0 (by omega)
        have g1 := hget 1 (by omega)
        simp [Addr.add] at g0 g1
        exact ⟨(z0, z1), by simpa [Addr.add] using g0, by
          rcases Nat.eq_zero_or_pos j with h | h
          · subst h; simpa [Addr.add] using g1
          · simpa [Addr.add, Nat.add_assoc, show ¬ (j * 2 = 0) by omega] using g1, hw0, hw1⟩
    let ts : Nat → Int × Int := fun j => if h : j < m then (each j h).choose else (0, 0)
    have hts : ∀ j, j < m → w.cell? (x.add (j * 2)) = some (.int .i64 (ts j).1) ∧ w.cell? (x.add (j * 2 + 1)) = some (.int .i64 (ts j).2) ∧ (Lit.int .i64 (ts j).1).wf = true ∧ (Lit.int .i64 (ts j).2).wf = true := by
      intro j hj
      show w.cell? (x.add (j * 2)) = some (.int .i64 (if h : j < m then (each j h).choose else (0, 0)).1) ∧ _
      have : ts j = (each j hj).choose := by simp only [ts, dif_pos hj]
      simp only [dif_pos hj]
      rw [this]
      exact (each j hj).choose_spec
    refine ⟨ts, hl, hm, fun hn => ?_, fun j hj => ?_, .inr ⟨_, _, (Prod.mk.inj hd).1, by simp⟩⟩
    · obtain ⟨b, off, rfl, hlt⟩ := spot_of_cell (by simpa using (hts 0 (by omega)).1)
      refine ⟨b, off, rfl, hlt, fun j hj => ?_⟩
      have := hts j (by omega)
      rw [Addr.add_lit, Addr.add_lit] at this
      exact ⟨this.1, by simpa [Nat.add_assoc] using this.2.1⟩
    · have := hts j (by omega)
      have w0 := this.2.2.1
      have w1 := this.2.2.2
      exact ⟨(bounds_i64 w0).1, (bounds_i64 w0).2, (bounds_i64 w1).1, (bounds_i64 w1).2⟩
end Go.Proofs.Ytopmamgdfngdoaa
/- What the frame hands over, opened: a row of structs, or of rows. -/
namespace Go.Proofs.Ytopmamgdfngdoaa
open Go.ChangeShapes Go.WideShapes Go.ChangeAt Go.RowKit
set_option linter.unusedVariables false

/-- a row whose elements have c cells each: f j is what the j-th reads as, cs j are its cells -/
structure RdRow {α : Type} (c : Nat) (w : World) (ao : Option Addr) (n cap : Nat) (want : List Value → α → Prop) (cs : Nat → List Value) (f : Nat → α) : Prop where
  le : n ≤ cap
  max : cap ≤ maxLen
  mem : 0 < n → ∃ b off, ao = some ⟨b, off, none⟩ ∧ b < w.heap.size ∧ ∀ j, j < n → ∀ k v, (cs j)[k]? = some v → w.cell? ⟨b, off + j * c + k, none⟩ = some v
  each : ∀ j, j < n → (cs j).length = c ∧ want (cs j) (f j)

theorem opened_row {H : Type} {α : Type} [Inhabited α] {P : Program} {enc : TypeId × Value → H} {w : World} {t e : TypeId} {d : DataW H} {p : List MemPlace} {a : Option Addr} {len cap : Nat} {c : Nat}
    (want : List Value → α → Prop) (ht : P.underlying t = some (.slice e)) (hc : P.cellsOf e = c) (hc0 : 0 < c)
    (one : ∀ cs fuel x, DataW.trod enc P w 0 (fun _ => true) true fuel e cs = some x → ∃ a, want cs a)
    (h : DataW.Trod enc P w 0 (fun _ => true) true t (.slice a len cap) d p) :
    ∃ cs f, RdRow c w a len cap want cs f ∧ (len = 0 ∨ ∃ es sp, d = .slice es sp ∧ es.length = len) := by
  obtain ⟨fuel, hf⟩ := h
  rcases Go.Deep.open_slice ht hf with ⟨hcs, _⟩ | ⟨x, l, k, m, n, D, Pl, hcs, _, hl, hm, hmm, hd, hx⟩
  · simp [Value.cells] at hcs
    obtain ⟨rfl, rfl, rfl⟩ := hcs
    exact ⟨fun _ => [], fun _ => default, ⟨Nat.le_refl _, Nat.zero_le _, fun h => absurd h (by omega), fun j hj => absurd hj (by omega)⟩, .inl rfl⟩
  · simp [Value.cells] at hcs
    obtain ⟨rfl, rfl, rfl⟩ := hcs
    have hm' : m = cap := by simpa using hmm
    subst hm'
    have each : ∀ j, j < m → ∃ y : List Value × α, w.cells? 0 (x.add (j * c)) c = some y.1 ∧ y.1.length = c ∧ want y.1 y.2 := by
      intro j hj
      obtain ⟨cs, hcs, htr⟩ := hx j hj
      rw [hc] at hcs
      obtain ⟨v, hv⟩ := one cs _ _ htr
      exact ⟨(cs, v), hcs, (World.cells?_some hcs).2.1, hv⟩
    obtain ⟨g, hg⟩ := Go.Deep.choose_lt each
    refine ⟨fun j => (g j).1, fun j => (g j).2, ⟨hl, hm, fun hn => ?_, fun j hj => (hg j (by omega)).2⟩, .inr ⟨_, _, (Prod.mk.inj hd).1, by simp⟩⟩
    have e0 := World.cells?_some (hg 0 (by omega)).1
    have e00 := e0.2.2 0 hc0
    rw [Nat.zero_mul] at e00
    have hpos : 0 < ((g 0).1).length := by rw [(hg 0 (by omega)).2.1]; exact hc0
    have e01 : w.cell? (x.add 0) = some ((g 0).1)[0] := by
      rw [← List.getElem?_eq_getElem hpos, ← e00]
      congr 1
    obtain ⟨b, off, rfl, hlt⟩ := spot_of_cell e01
    refine ⟨b, off, rfl, hlt, fun j hj k v hv => ?_⟩
    have hk : k < c := by
      have := (List.getElem?_eq_some_iff.1 hv).1
      rwa [(hg j (by omega)).2.1] at this
    have := (World.cells?_some (hg j (by omega)).1).2.2 k hk
    rw [Addr.add_lit, Addr.add_lit] at this
    exact this.trans hv

/-- a row of bytes inside another thing -/
theorem inner_bytes {H : Type} {P : Program} {enc : TypeId × Value → H} {w : World} {t e : TypeId} {x : DataW H × List MemPlace} {fuel : Nat} {cs : List Value}
    (ht : P.underlying t = some (.slice e)) (he : P.underlying e = some (.int .u8)) (hc : P.cellsOf e = 1) (h : DataW.trod enc P w 0 (fun _ => true) true fuel t cs = some x) :
    ∃ a len cap bs, cs = [.slice a len cap] ∧ Rd w a len cap (vb bs) ∧ AllB bs := by
  rcases open_ints ht he hc h with ⟨hcs, _⟩ | ⟨x, l, c, zs, hcs, _, hl, hm, hz, hd, hcell, hwz⟩
  · obtain ⟨bs, hr, hb⟩ := rd_of_row (w := w) (a := none) (len := 0) (cap := 0) (zs := []) (.inl ⟨rfl, rfl, rfl, rfl⟩)
    exact ⟨none, 0, 0, bs, hcs, hr, hb⟩
  · have hz' : zs.length = c := by simpa using hz
    obtain ⟨bs, hr, hb⟩ := rd_of_row (w := w) (a := some x) (len := l) (cap := c) (zs := zs) (.inr ⟨_, rfl, hl, hm, hz', hcell, hwz⟩)
    exact ⟨some x, l, c, bs, hcs, hr, hb⟩

/-- a row of rows of bytes -/
def isBytes (w : World) (cs : List Value) (b : (Option Addr × Nat × Nat) × List Nat) : Prop :=
  cs = [.slice b.1.1 b.1.2.1 b.1.2.2] ∧ Rd w b.1.1 b.1.2.1 b.1.2.2 (vb b.2) ∧ AllB b.2

theorem one_bytes {H : Type} {P : Program} {enc : TypeId × Value → H} {w : World} {t e : TypeId} {x : DataW H × List MemPlace} {fuel : Nat} {cs : List Value}
    (ht : P.underlying t = some (.slice e)) (he : P.underlying e = some (.int .u8)) (hc : P.cellsOf e = 1) (h : DataW.trod enc P w 0 (fun _ => true) true fuel t cs = some x) :
    ∃ b, isBytes w cs b := by
  obtain ⟨a, len, cap, bs, h1, h2, h3⟩ := inner_bytes ht he hc h
  exact ⟨((a, len, cap), bs), h1, h2, h3⟩
end Go.Proofs.Ytopmamgdfngdoaa
/- DeliverWhole: the ways that came in. -/
namespace Go.Proofs.Ytopmamgdfngdoaa
open Go.ChangeShapes Go.WideShapes Go.ChangeAt Go.RowKit
set_option linter.unusedVariables false

def isWay (cs : List Value) (r : W5) : Prop := cs = wcl r ∧ in64 r.d ∧ in64 r.u ∧ in64 r.q
theorem in64_of {z : Int} (h : (Lit.int .i64 z).wf = true) : in64 z := by
  have := bounds_i64 h
  unfold in64
  omega
instance : Inhabited W5 := ⟨⟨0, 0, 0, 0, 0⟩⟩
theorem one_way {H : Type} {enc : TypeId × Value → H} {w : World} (cs : List Value) (fuel : Nat) (x : DataW H × List MemPlace)
    (h : DataW.trod enc Try.prog w 0 (fun _ => true) true fuel 41 cs = some x) : ∃ r, isWay cs r := by
  obtain ⟨xs, n, _, _, hl, hlen, hf⟩ := DataW.trod_struct Try.underlying41 h
  rw [show Try.prog.cellsOf 41 = 5 from by kernel_rfl] at hl
  have g : ∀ i (hi : i < xs.length), xs[i]? = some xs[i] := fun i hi => List.getElem?_eq_getElem hi
  have hlen : xs.length = 5 := hlen
  have f0 : DataW.trod enc Try.prog w 0 (fun _ => true) true n 3 ((cs.drop 0).take (Try.prog.cellsOf 3)) = _ := (hf 0 _ rfl).trans (g 0 (by omega))
  have f1 : DataW.trod enc Try.prog w 0 (fun _ => true) true n 3 ((cs.drop 1).take (Try.prog.cellsOf 3)) = _ := (hf 1 _ rfl).trans (g 1 (by omega))
  have f2 : DataW.trod enc Try.prog w 0 (fun _ => true) true n 3 ((cs.drop 2).take (Try.prog.cellsOf 3)) = _ := (hf 2 _ rfl).trans (g 2 (by omega))
  have f3 : DataW.trod enc Try.prog w 0 (fun _ => true) true n 3 ((cs.drop 3).take (Try.prog.cellsOf 3)) = _ := (hf 3 _ rfl).trans (g 3 (by omega))
  have f4 : DataW.trod enc Try.prog w 0 (fun _ => true) true n 3 ((cs.drop 4).take (Try.prog.cellsOf 3)) = _ := (hf 4 _ rfl).trans (g 4 (by omega))
  simp only [show Try.prog.cellsOf 3 = 1 from by kernel_rfl] at f0 f1 f2 f3 f4
  obtain ⟨z0, e0, _, w0⟩ := DataW.trod_int Try.underlying3 f0
  obtain ⟨z1, e1, _, w1⟩ := DataW.trod_int Try.underlying3 f1
  obtain ⟨z2, e2, _, w2⟩ := DataW.trod_int Try.underlying3 f2
  obtain ⟨z3, e3, _, w3⟩ := DataW.trod_int Try.underlying3 f3
  obtain ⟨z4, e4, _, w4⟩ := DataW.trod_int Try.underlying3 f4
  have hcs : cs = [.int .i64 z0, .int .i64 z1, .int .i64 z2, .int .i64 z3, .int .i64 z4] := by
    clear w0 w1 w2 w3 w4 hf f0 f1 f2 f3 f4 h
    match cs, hl with
    | [c0, c1, c2, c3, c4], _ =>
      simp at e0 e1 e2 e3 e4
      subst e0 e1 e2 e3 e4
      rfl
  exact ⟨⟨z0, z1, z2, z3, z4⟩, hcs, in64_of w0, in64_of w1, in64_of w2⟩
theorem opened_ways {H : Type} {enc : TypeId × Value → H} {w : World} {d : DataW H} {p : List MemPlace} {a : Option Addr} {len cap : Nat}
    (h : DataW.Trod enc Try.prog w 0 (fun _ => true) true 23 (.slice a len cap) d p) :
    ∃ f, RdW w w.heap.size a len cap f ∧ (len = 0 ∨ ∃ es sp, d = .slice es sp ∧ es.length = len) := by
  obtain ⟨cs, f, hR, hz⟩ := opened_row isWay Try.underlying23 (by kernel_rfl) (by decide : 0 < 5) one_way h
  refine ⟨f, ⟨hR.le, fun hn => ?_, fun j hj => (hR.each j hj).2.2⟩, hz⟩
  obtain ⟨b, off, h1, h2, h3⟩ := hR.mem hn
  refine ⟨b, off, h1, h2, fun j hj k v hv => ?_⟩
  have hc : cs j = _ := (hR.each j hj).2.1
  exact h3 j hj k v (by rw [hc]; exact hv)
end Go.Proofs.Ytopmamgdfngdoaa
