/- PassesDue: room: all of it. -/
import Derived.Test.YtfbchmihkndfaaaDue14
import Derived.Test.YtfbchmihkndfaaaDue7
import Derived.Laws.EntriesVeiled
import Derived.Test.YtfbchmihkndfaaaDue2
import Derived.Laws.AppendOwnNone
import Derived.OwnWalk
import Derived.Deep.DeepAppendWide
namespace Go.Proofs.Ytfbchmihkndfaaa
set_option linter.unusedVariables false
open Go.RowKit

theorem run_mkT (u : World) : (Instr.makeSlice 23 (.int .i64 20001) (.int .i64 20001)).run Try.prog u =
    .ok (.slice (some ⟨u.heap.size, 0, none⟩) 20001 20001) (u.alloc (.cells (madeCells #[.int .i64 0] (20001 * 1)) 3)) := by
  obtain ⟨i0, hi, hz0, hz1, hz2⟩ := info_parts Try.info3
  have h := run_make (P := Try.prog) u 23 3 i0 (.int .i64 0) Try.underlying23 hi hz0 .i64 .i64 20001 20001 (by omega) (Int.le_refl _) (by rw [hz2]; omega) (by omega)
  simpa [hz1, Value.cells] using h
/-- what room answers -/
structure RoomR (W0 W : World) (V : Wins) (e : Ending) : Prop where
  ex : ∃ rb, e = .returned (.slice (some ⟨rb, 0, none⟩) 20001 20001) ∧ W0.heap.size ≤ rb ∧ Iv W rb (fun t => (V.rt V.n t : Int))
  blw : Below W0.heap.size W0 W
set_option maxRecDepth 1000000 in
set_option maxHeartbeats 2000000 in
theorem room_ok (wa : Option Addr) (c : Nat) (V : Wins) (W0 : World) (hV : WinOk V) (hw : WAt W0 wa c V) :
    Calls Try.prog 28 #[.slice wa V.n c] W0 fun e w' => RoomR W0 w' V e := by
  have hm := run_mkT W0
  have I0 := Iv.start W0
  have b1 := below_alloc W0 (.cells (madeCells #[.int .i64 0] (20001 * 1)) 3)
  have hl1 := hid (room_l1 W0.heap.size wa c V W0 _ hV hw I0 (Nat.le_refl _) b1)
  have hl2 := hid (fun W (h : Iv W W0.heap.size (V.df V.n)) => room_l2 W0.heap.size V W h hV.n hV.ft hV.ra)
  clear I0 b1 hV hw
  generalize madeCells #[.int .i64 0] (20001 * 1) = MB at *
  go_enter Try.func28, Try.ntmps28
  refine wp_seq_k (fun K0 hK0 => ?_)
  go_wp2_with fail
  refine hK0.out _ _ ?_
  refine wp_seq_k (fun K1 hK1 => ?_)
  go_wp2_with fail
  refine hK1.out _ _ ?_
  refine wp_seq_k (fun K2 hK2 => ?_)
  refine wp_seq_k (fun K3 hK3 => ?_)
  go_wp2_with fail
  refine hK3.out _ _ ?_
  refine Tri.use hl1.out rfl ⟨rfl, rfl, rfl, rfl, rfl⟩ ?_
  rintro y1 W1 ⟨s3, hI1, hb1⟩
  refine hK2.out _ _ ?_
  have H2 := hid (hl2.out W1 hI1)
  have Hb1 := hid hb1
  clear hI1 hb1 hl1 hl2 hm
  rw [fr49]
  simp only [s3]
  clear s3
  refine wp_seq_k (fun K4 hK4 => ?_)
  refine wp_seq_k (fun K5 hK5 => ?_)
  go_wp2_with fail
  refine hK5.out _ _ ?_
  refine Tri.use H2.out rfl ⟨rfl, rfl, rfl⟩ ?_
  rintro y2 W2 ⟨s3, hI2, hg2⟩
  refine hK4.out _ _ ?_
  have HI2 := hid hI2
  have Hb2 := hid (Hb1.out.grown hg2 Hb1.out.size (fun j e => by cases e; exact Nat.le_refl _))
  clear hI2 hg2 H2
  rw [fr49]
  simp only [s3]
  clear s3
  go_wp2_with fail
  go_ret
  exact ⟨⟨_, rfl, Nat.le_refl _, HI2.out⟩, Hb2.out⟩
end Go.Proofs.Ytfbchmihkndfaaa
/- PassesDue: looks: windows and jobs are as they may be. -/
namespace Go.Proofs.Ytfbchmihkndfaaa
set_option linter.unusedVariables false
open Go.RowKit

structure JobOk (m : Nat) (F Y N : Nat → Nat) : Prop where
  n : m ≤ 9
  fy : ∀ i, i < m → F i ≤ Y i
  y : ∀ i, i < m → Y i ≤ 1000
  b : ∀ i, i < m → N i ≤ 1000
/-- jobs that came in (or none) -/
structure TAt (W : World) (ja : Option Addr) (m c : Nat) (F Y N : Nat → Nat) : Prop where
  le : m ≤ c
  mx : c ≤ maxLen
  mem : 0 < m → ∃ b, ja = some ⟨b, 0, none⟩ ∧ b < W.heap.size ∧ ∀ i, i < m → W.cell? ⟨b, i * 3, none⟩ = some (.int .i64 (F i : Int)) ∧ W.cell? ⟨b, i * 3 + 1, none⟩ = some (.int .i64 (Y i : Int)) ∧ W.cell? ⟨b, i * 3 + 2, none⟩ = some (.int .i64 (N i : Int))
theorem TAt.below' {W0 W : World} {ja : Option Addr} {m c : Nat} {F Y N : Nat → Nat} (h : TAt W0 ja m c F Y N) (hb : Below W0.heap.size W0 W) : TAt W ja m c F Y N :=
  ⟨h.le, h.mx, fun hn => by
    obtain ⟨b, h1, h2, h3⟩ := h.mem hn
    exact ⟨b, h1, Nat.lt_of_lt_of_le h2 hb.size, fun i hi => ⟨(hb.cell (p := ⟨b, i * 3, none⟩) h2).trans (h3 i hi).1, (hb.cell (p := ⟨b, i * 3 + 1, none⟩) h2).trans (h3 i hi).2.1, (hb.cell (p := ⟨b, i * 3 + 2, none⟩) h2).trans (h3 i hi).2.2⟩⟩⟩
theorem WAt.tat {W : World} {wa : Option Addr} {c : Nat} {V : Wins} (h : WAt W wa c V) : TAt W wa V.n c V.fr V.tt V.ra := ⟨h.le, h.mx, h.mem⟩
set_option maxRecDepth 100000 in
set_option maxHeartbeats 1000000 in
theorem span_ok (f t : Nat) (hf : f ≤ t) (ht : t ≤ 1000) (w : World) : Calls Try.prog 20 #[.int .i64 (f : Int), .int .i64 (t : Int)] w fun e w' => e = .returned (.bool true) ∧ w' = w := by
  go_enter Try.func20, Try.ntmps20
  go_wp2_with ((go_at_call 12; refine (in_yes _ _ _ _ (by omega) (by omega)).mono ?_; rintro e w' ⟨rfl, rfl⟩))
  go_ret
  exact ⟨rfl, rfl⟩
set_option maxRecDepth 100000 in
set_option maxHeartbeats 1000000 in
theorem oneW (f t r S : Nat) (hf : f ≤ t) (ht : t ≤ 1000) (hr : r ≤ 1000) (w : World) (hS : w.heap[S]? = some (.cells #[.func (.func 20) #[] #[]] 57)) : Calls Try.prog 22 #[.agg #[.int .i64 (f : Int), .int .i64 (t : Int), .int .i64 (r : Int)], .pointer (some ⟨S, 0, none⟩)] w fun e w' => e = .returned (.bool false) ∧ Below w.heap.size w w' := by
  have b1 := hid (below_alloc w (.cells #[.int .i64 (f : Int), .int .i64 (t : Int), .int .i64 (r : Int)] 29))
  have r1 := heap_alloc_new w (.cells #[.int .i64 (f : Int), .int .i64 (t : Int), .int .i64 (r : Int)] 29)
  have s1 := row_below hS b1.out
  have c0 : (w.alloc (.cells #[.int .i64 (f : Int), .int .i64 (t : Int), .int .i64 (r : Int)] 29)).cell? ⟨S, 0, none⟩ = some (.func (.func 20) #[] #[]) := by rw [cell_of_row _ _ _ _ _ _ s1]; rfl
  clear r1 s1 hS
  have hs := span_ok f t hf ht
  go_enter Try.func22, Try.ntmps22
  go_wp2_with fail
  refine (hs _).mono ?_
  rintro e w' ⟨rfl, hw⟩
  rw [hw]
  clear hw w'
  go_wp2_with ((go_at_call 12; refine (in_yes _ _ _ _ (by omega) (by omega)).mono ?_; rintro e w' ⟨rfl, rfl⟩))
  go_ret
  exact ⟨rfl, b1.out⟩
set_option maxRecDepth 100000 in
set_option maxHeartbeats 1000000 in
theorem idxW (la : Option Addr) (n cap S : Nat) (F Y N : Nat → Nat) (hn : n ≤ 9) (hfy : ∀ i, i < n → F i ≤ Y i) (hy : ∀ i, i < n → Y i ≤ 1000) (hN : ∀ i, i < n → N i ≤ 1000) (w : World) (hS : w.heap[S]? = some (.cells #[.func (.func 20) #[] #[]] 57)) (hr : TAt w la n cap F Y N) :
    Calls Try.prog 37 #[.slice la n cap, .func (.func 22) #[] #[.pointer (some ⟨S, 0, none⟩)]] w fun e w' => e = .returned (.int .i64 (-1)) ∧ Below w.heap.size w w' := by
  have Hr := hid hr
  have HS := hid hS
  have H1 := hid hfy
  have H2 := hid hy
  have H3 := hid hN
  clear hr hS hfy hy hN
  go_enter Try.func37, Try.ntmps37
  go_wp2_with fail
  go_loopw [8] (fun i wr => ∃ j : Nat, j ≤ n ∧ i = .int .i64 j ∧ Hid (Below w.heap.size w wr)) (fun i _ => n - (intOf i).toNat)
  case atStart => exact ⟨0, by omega, rfl, Below.refl _ _⟩
  case round =>
    obtain ⟨j, hj, rfl, hB⟩ := hrel
    by_cases hlt : j < n
    · have hr1 := Hr.out.below' hB.out
      obtain ⟨b, rfl, hbl, hc⟩ := hr1.mem (by omega)
      obtain ⟨c0, c1, c2⟩ := hc j hlt
      have ho := oneW (F j) (Y j) (N j) S (H1.out j hlt) (H2.out j hlt) (H3.out j hlt) wr (row_below HS.out hB.out)
      clear hr1 hc
      generalize F j = pf at *
      generalize Y j = pt at *
      generalize N j = pw at *
      go_wp2_with fail
      refine ho.mono ?_
      rintro e W1 ⟨rfl, b1⟩
      have hB1 : Hid (Below w.heap.size w W1) := hB.out.trans (b1.mono hB.out.size)
      clear b1 hB ho c0 c1 c2
      go_wp2_with fail
      go_roundw
      case rel => exact ⟨j + 1, by omega, by go_num, hB1⟩
      case measure => simp [intOf]; omega
    · obtain rfl : n = j := by omega
      go_wp2_with fail
      go_ret
      exact ⟨rfl, hB.out⟩
theorem hasW (la : Option Addr) (n cap S : Nat) (F Y N : Nat → Nat) (hn : n ≤ 9) (hfy : ∀ i, i < n → F i ≤ Y i) (hy : ∀ i, i < n → Y i ≤ 1000) (hN : ∀ i, i < n → N i ≤ 1000) (w : World) (hS : w.heap[S]? = some (.cells #[.func (.func 20) #[] #[]] 57)) (hr : TAt w la n cap F Y N) :
    Calls Try.prog 21 #[.slice la n cap, .func (.func 22) #[] #[.pointer (some ⟨S, 0, none⟩)]] w fun e w' => e = .returned (.bool false) ∧ Below w.heap.size w w' := by
  have hi := idxW la n cap S F Y N hn hfy hy hN w hS hr
  clear hfy hy hN hS hr
  go_enter Try.func21, Try.ntmps21
  go_wp2_with fail
  refine hi.mono ?_
  rintro e W1 ⟨rfl, b1⟩
  have B1 := hid b1
  clear b1 hi
  go_wp2_with fail
  go_ret
  exact ⟨rfl, B1.out⟩
set_option maxRecDepth 100000 in
set_option maxHeartbeats 1000000 in
theorem oneJ (f t r S : Nat) (hf : f ≤ t) (ht : t ≤ 1000) (hr : r ≤ 1000) (w : World) (hS : w.heap[S]? = some (.cells #[.func (.func 20) #[] #[]] 57)) : Calls Try.prog 24 #[.agg #[.int .i64 (f : Int), .int .i64 (t : Int), .int .i64 (r : Int)], .pointer (some ⟨S, 0, none⟩)] w fun e w' => e = .returned (.bool false) ∧ Below w.heap.size w w' := by
  have b1 := hid (below_alloc w (.cells #[.int .i64 (f : Int), .int .i64 (t : Int), .int .i64 (r : Int)] 32))
  have r1 := heap_alloc_new w (.cells #[.int .i64 (f : Int), .int .i64 (t : Int), .int .i64 (r : Int)] 32)
  have s1 := row_below hS b1.out
  have c0 : (w.alloc (.cells #[.int .i64 (f : Int), .int .i64 (t : Int), .int .i64 (r : Int)] 32)).cell? ⟨S, 0, none⟩ = some (.func (.func 20) #[] #[]) := by rw [cell_of_row _ _ _ _ _ _ s1]; rfl
  clear r1 s1 hS
  have hs := span_ok f t hf ht
  go_enter Try.func24, Try.ntmps24
  go_wp2_with fail
  refine (hs _).mono ?_
  rintro e w' ⟨rfl, hw⟩
  rw [hw]
  clear hw w'
  go_wp2_with ((go_at_call 12; refine (in_yes _ _ _ _ (by omega) (by omega)).mono ?_; rintro e w' ⟨rfl, rfl⟩))
  go_ret
  exact ⟨rfl, b1.out⟩
set_option maxRecDepth 100000 in
set_option maxHeartbeats 1000000 in
theorem idxJ (la : Option Addr) (n cap S : Nat) (F Y N : Nat → Nat) (hn : n ≤ 9) (hfy : ∀ i, i < n → F i ≤ Y i) (hy : ∀ i, i < n → Y i ≤ 1000) (hN : ∀ i, i < n → N i ≤ 1000) (w : World) (hS : w.heap[S]? = some (.cells #[.func (.func 20) #[] #[]] 57)) (hr : TAt w la n cap F Y N) :
    Calls Try.prog 38 #[.slice la n cap, .func (.func 24) #[] #[.pointer (some ⟨S, 0, none⟩)]] w fun e w' => e = .returned (.int .i64 (-1)) ∧ Below w.heap.size w w' := by
  have Hr := hid hr
  have HS := hid hS
  have H1 := hid hfy
  have H2 := hid hy
  have H3 := hid hN
  clear hr hS hfy hy hN
  go_enter Try.func38, Try.ntmps38
  go_wp2_with fail
  go_loopw [8] (fun i wr => ∃ j : Nat, j ≤ n ∧ i = .int .i64 j ∧ Hid (Below w.heap.size w wr)) (fun i _ => n - (intOf i).toNat)
  case atStart => exact ⟨0, by omega, rfl, Below.refl _ _⟩
  case round =>
    obtain ⟨j, hj, rfl, hB⟩ := hrel
    by_cases hlt : j < n
    · have hr1 := Hr.out.below' hB.out
      obtain ⟨b, rfl, hbl, hc⟩ := hr1.mem (by omega)
      obtain ⟨c0, c1, c2⟩ := hc j hlt
      have ho := oneJ (F j) (Y j) (N j) S (H1.out j hlt) (H2.out j hlt) (H3.out j hlt) wr (row_below HS.out hB.out)
      clear hr1 hc
      generalize F j = pf at *
      generalize Y j = pt at *
      generalize N j = pw at *
      go_wp2_with fail
      refine ho.mono ?_
      rintro e W1 ⟨rfl, b1⟩
      have hB1 : Hid (Below w.heap.size w W1) := hB.out.trans (b1.mono hB.out.size)
      clear b1 hB ho c0 c1 c2
      go_wp2_with fail
      go_roundw
      case rel => exact ⟨j + 1, by omega, by go_num, hB1⟩
      case measure => simp [intOf]; omega
    · obtain rfl : n = j := by omega
      go_wp2_with fail
      go_ret
      exact ⟨rfl, hB.out⟩
theorem hasJ (la : Option Addr) (n cap S : Nat) (F Y N : Nat → Nat) (hn : n ≤ 9) (hfy : ∀ i, i < n → F i ≤ Y i) (hy : ∀ i, i < n → Y i ≤ 1000) (hN : ∀ i, i < n → N i ≤ 1000) (w : World) (hS : w.heap[S]? = some (.cells #[.func (.func 20) #[] #[]] 57)) (hr : TAt w la n cap F Y N) :
    Calls Try.prog 23 #[.slice la n cap, .func (.func 24) #[] #[.pointer (some ⟨S, 0, none⟩)]] w fun e w' => e = .returned (.bool false) ∧ Below w.heap.size w w' := by
  have hi := idxJ la n cap S F Y N hn hfy hy hN w hS hr
  clear hfy hy hN hS hr
  go_enter Try.func23, Try.ntmps23
  go_wp2_with fail
  refine hi.mono ?_
  rintro e W1 ⟨rfl, b1⟩
  have B1 := hid b1
  clear b1 hi
  go_wp2_with fail
  go_ret
  exact ⟨rfl, B1.out⟩
set_option maxRecDepth 100000 in
set_option maxHeartbeats 2000000 in
theorem looks_ok (wa ja : Option Addr) (wc m jc : Nat) (V : Wins) (F Y N : Nat → Nat) (hV : WinOk V) (hJ : JobOk m F Y N) (w : World) (hw : WAt w wa wc V) (hj : TAt w ja m jc F Y N) :
    Calls Try.prog 10 #[.slice wa V.n wc, .slice ja m jc] w fun e w' => e = .returned (.int .i64 0) ∧ Below w.heap.size w w' := by
  have b1 := below_alloc w (.cells #[.func (.func 20) #[] #[]] 57)
  have r1 := heap_alloc_new w (.cells #[.func (.func 20) #[] #[]] 57)
  have hwin := hasW wa V.n wc w.heap.size V.fr V.tt V.ra (by have := hV.n; omega) hV.ft hV.tt hV.ra _ r1 (hw.tat.below' b1)
  have HJ := hid (fun W (h : Below w.heap.size w W) (hr : W.heap[w.heap.size]? = some (.cells #[.func (.func 20) #[] #[]] 57)) => hasJ ja m jc w.heap.size F Y N hJ.n hJ.fy hJ.y hJ.b W hr (hj.below' h))
  have hvn := hV.n
  have hvm := hJ.n
  generalize V.n = vn at *
  have B1 := hid b1
  have R1 := hid r1
  have Hsz := hid (show w.heap.size ≤ (w.alloc (.cells #[.func (.func 20) #[] #[]] 57)).heap.size from b1.size)
  clear hw hj b1 r1 hV hJ
  go_enter Try.func10, Try.ntmps10
  go_wp2_with fail
  refine hwin.mono ?_
  rintro e W1 ⟨rfl, b2⟩
  have B2 := hid (B1.out.trans (b2.mono Hsz.out))
  have hjob := HJ.out W1 B2.out (row_below R1.out b2)
  clear b2 hwin HJ R1 B1
  go_wp2_with fail
  refine hjob.mono ?_
  rintro e W2 ⟨rfl, b3⟩
  have B3 := hid (B2.out.trans (b3.mono B2.out.size))
  clear b3 hjob
  go_wp2_with fail
  go_ret
  exact ⟨rfl, B3.out⟩
end Go.Proofs.Ytfbchmihkndfaaa
/- append of a row that reads (nil or not) onto an own row: one law for the walk. -/
namespace Go.Proofs.Ytfbchmihkndfaaa
set_option linter.unusedVariables false
open Go.RowKit

theorem own_slice {w : World} {base e size : Nat} {v : Value} {n : Nat} {xs : List Value} (h : w.ownsRow base e size v n xs) :
    ∃ ao cap, v = .slice ao n cap ∧ (v = .slice none 0 0 ↔ ao = none) ∧ ∀ k, v.ownBlock = some k → base ≤ k := by
  rcases h.2 with ⟨rfl, rfl⟩ | ⟨g, cap, cur, rfl, hb, _⟩
  · exact ⟨none, 0, rfl, by simp, fun k h => by simp [Value.ownBlock] at h⟩
  · exact ⟨_, cap, rfl, by simp, fun k h => by simp [Value.ownBlock] at h; omega⟩

theorem wpList_append_rd {P : Program} {w : World} {ops : Array Oper} {rest : List Oper} {o : Oper} {a : Act} {Q : Exit → Act → World → Prop} (hgd : o.guard = none) (s x : Operand) (t : TypeId)
    (ho : o.op = .call { callee := .builtin .append, args := #[s, x], argTypes := #[t, t] })
    (base : Nat) (e : TypeId) (i : TypeInfo) (z : Value) (bytes : Nat) (ht : P.underlying t = some (.slice e)) (hi : P.info? e = some i) (hz : i.zero = some z) (hsize : i.size = 1) (hby : i.bytes = bytes) (hzs : z.cells.size = 1)
    (ao : Option Addr) (n cap : Nat) (xs : List Value) (hs : a.eval s = .slice ao n cap) (hown : w.ownsRow base e 1 (.slice ao n cap) n xs)
    (bo : Option Addr) (m c : Nat) (ys : List Value) (hx : a.eval x = .slice bo m c) (hrd : Rd w bo m c ys) (h1 : ∀ u ∈ ys, u.oneCell' = true)
    (hbytes : (n + m) * bytes ≤ 140737488355328) (h63 : n + m ≤ maxLen) (hbase : base ≤ w.heap.size)
    (h : ∀ ao' cap' w', w'.ownsRow base e 1 (.slice ao' (n + m) cap') (n + m) (xs ++ ys) → w.grownBy w' (Value.slice ao n cap).ownBlock → Below base w w' → wpList P ops Q rest (a.put o.dst (.slice ao' (n + m) cap')) w') : wpList P ops Q (o :: rest) a w := by
  cases bo with
  | none =>
    obtain rfl := hrd.isnil rfl
    obtain rfl : m = 0 := by have := hrd.le; omega
    obtain rfl : ys = [] := List.eq_nil_of_length_eq_zero hrd.len
    refine wpList_append_own_none hgd s x t ho base e i 1 ht hi _ n xs hs hown hx ?_
    refine h _ _ _ (by simpa using hown) ⟨rfl, rfl, rfl, Nat.le_refl _, fun _ _ _ => rfl⟩ (Below.refl _ _)
  | some ad =>
    refine wpList_append_own w hgd s x t ho base e i z 1 bytes ht hi hz hsize hby hzs (by decide) _ n xs hs hown ad m c ys hx (by rw [hrd.len]; omega) ?_ h1 h63 hbytes hbase ?_
    · intro j u hj
      have hjn : j < m := by have h1 := (List.getElem?_eq_some_iff.1 hj).1; have h2 := hrd.len; omega
      obtain ⟨b', off', ha, _, hc⟩ := hrd.mem (by omega)
      cases ha
      rw [Addr.add_lit, hc j hjn]
      exact hj
    · intro v' w' ho' hg hnil
      obtain ⟨ao', cap', rfl, _, _⟩ := own_slice ho'
      obtain ⟨_, _, _, _, hown2⟩ := own_slice hown
      exact h _ _ _ ho' hg ((Below.refl base w).grown hg hbase hown2)

theorem wpList_append_rd_wide {P : Program} {w : World} {ops : Array Oper} {rest : List Oper} {o : Oper} {a : Act} {Q : Exit → Act → World → Prop} (hgd : o.guard = none) (s x : Operand) (t : TypeId)
    (ho : o.op = .call { callee := .builtin .append, args := #[s, x], argTypes := #[t, t] })
    (base : Nat) (e : TypeId) (i : TypeInfo) (z : Value) (bytes : Nat) (ht : P.underlying t = some (.slice e)) (hi : P.info? e = some i) (hz : i.zero = some z) (hsize : i.size = 1) (hby : i.bytes = bytes) (hzs : z.cells.size = 1)
    (ao : Option Addr) (n cap : Nat) (xs : List Value) (hs : a.eval s = .slice ao n cap) (hown : w.ownsRow base e 1 (.slice ao n cap) n xs)
    (bo : Option Addr) (m c : Nat) (ys : List Value) (hx : a.eval x = .slice bo m c) (hrd : Rd w bo m c ys) (h1 : ∀ u ∈ ys, u.oneCell' = true)
    (hbytes : ((n + m) + (n + m) / 4 + 192) * bytes ≤ 281474976710656) (h63 : n + m ≤ maxLen) (hbase : base ≤ w.heap.size)
    (h : ∀ ao' cap' w', w'.ownsRow base e 1 (.slice ao' (n + m) cap') (n + m) (xs ++ ys) → w.grownBy w' (Value.slice ao n cap).ownBlock → Below base w w' → wpList P ops Q rest (a.put o.dst (.slice ao' (n + m) cap')) w') : wpList P ops Q (o :: rest) a w := by
  cases bo with
  | none =>
    obtain rfl := hrd.isnil rfl
    obtain rfl : m = 0 := by have := hrd.le; omega
    obtain rfl : ys = [] := List.eq_nil_of_length_eq_zero hrd.len
    refine wpList_append_own_none hgd s x t ho base e i 1 ht hi _ n xs hs hown hx ?_
    refine h _ _ _ (by simpa using hown) ⟨rfl, rfl, rfl, Nat.le_refl _, fun _ _ _ => rfl⟩ (Below.refl _ _)
  | some ad =>
    refine wpList_append_own_wide w hgd s x t ho base e i z 1 bytes ht hi hz hsize hby hzs (by decide) _ n xs hs hown ad m c ys hx (by rw [hrd.len]; omega) ?_ h1 h63 hbytes hbase ?_
    · intro j u hj
      have hjn : j < m := by have h1 := (List.getElem?_eq_some_iff.1 hj).1; have h2 := hrd.len; omega
      obtain ⟨b', off', ha, _, hc⟩ := hrd.mem (by omega)
      cases ha
      rw [Addr.add_lit, hc j hjn]
      exact hj
    · intro v' w' ho' hg hnil
      obtain ⟨ao', cap', rfl, _, _⟩ := own_slice ho'
      obtain ⟨_, _, _, _, hown2⟩ := own_slice hown
      exact h _ _ _ ho' hg ((Below.refl base w).grown hg hbase hown2)
end Go.Proofs.Ytfbchmihkndfaaa
