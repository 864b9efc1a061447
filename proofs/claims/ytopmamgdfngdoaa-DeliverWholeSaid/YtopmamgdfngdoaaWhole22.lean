/- deliver: put numbers of four bytes (walk 47). -/
import Derived.Test.YtopmamgdfngdoaaWhole21
import Derived.Test.YtopmamgdfngdoaaWhole3
import Derived.Test.YtopmamgdfngdoaaWhole15
import Derived.Lib.AppendStr
namespace Go.Proofs.Ytopmamgdfngdoaa
set_option linter.unusedVariables false
open Go.RowKit

def be4 (n : Nat) : List Nat := [n / 16777216 % 256, n / 65536 % 256, n / 256 % 256, n % 256]
theorem be4_len (n : Nat) : (be4 n).length = 4 := rfl
theorem be4_all (n : Nat) : AllB (be4 n) := by
  intro x hx
  unfold be4 at hx
  simp only [List.mem_cons, List.not_mem_nil, or_false] at hx
  rcases hx with rfl | rfl | rfl | rfl <;> omega
theorem numB_be4 (n : Nat) (h : n ≤ 4294967295) : numB (be4 n) = n := by
  unfold numB be4
  simp only [List.foldl_cons, List.foldl_nil]
  omega
theorem flatbe4_len : ∀ l : List Nat, (l.flatMap be4).length = l.length * 4
  | [] => rfl
  | x :: r => by
    rw [List.flatMap_cons, List.length_append, flatbe4_len r, be4_len, List.length_cons]
    omega
set_option maxRecDepth 1000000 in
theorem fr29p (y : Nat → Value) : fr 29 y = #[y 0, y 1, y 2, y 3, y 4, y 5, y 6, y 7, y 8, y 9, y 10, y 11, y 12, y 13, y 14, y 15, y 16, y 17, y 18, y 19, y 20, y 21, y 22, y 23, y 24, y 25, y 26, y 27, y 28] := rfl
structure PutS (B : Nat) (w0 W : World) (L : Nat) (oa : Option Addr) (m oc : Nat) (xs : List Nat) : Prop where
  own : W.ownsRow B 5 1 (.slice oa m oc) m (vb xs)
  ne : (Value.slice oa m oc).ownBlock ≠ some L
  L0 : L < W.heap.size
  row : W.heap[L]? = w0.heap[L]?
  blw : Below B w0 W
def putI (B : Nat) (w0 : World) (L off n c m0 : Nat) (xs l : List Nat) (y : Nat → Value) (W : World) : Prop :=
  ∃ k oa m oc, k ≤ n ∧ m = m0 + k * 4 ∧ y 0 = .slice oa m oc ∧ y 7 = .slice (some ⟨L, off, none⟩) n c ∧ y 8 = .int .i64 (n : Int) ∧ y 9 = .int .i64 (k : Int) ∧ PutS B w0 W L oa m oc (xs ++ (l.take k).flatMap be4)
structure PutR (B : Nat) (w0 W : World) (m : Nat) (xs : List Nat) (e : Ending) : Prop where
  ex : ∃ oa oc, e = .returned (.slice oa m oc) ∧ W.ownsRow B 5 1 (.slice oa m oc) m (vb xs)
  blw : Below B w0 W
set_option maxRecDepth 1000000 in
set_option maxHeartbeats 8000000 in
theorem put_ok (B L off n c m T : Nat) (oa : Option Addr) (oc : Nat) (xs l : List Nat) (cs : Array Value) (w : World) (h : w.ownsRow B 5 1 (.slice oa m oc) m (vb xs)) (hL : w.heap[L]? = some (.cells cs T)) (hl : l.length = n) (hcs : ∀ j, j < n → cs[off + j]? = some (.int .i64 (nth l j : Nat))) (hne : (Value.slice oa m oc).ownBlock ≠ some L) (hB : B ≤ w.heap.size) (hb : ∀ x ∈ l, x ≤ 4294967295) (hn : n ≤ 100) (hm : m ≤ 10000) :
    Calls Try.prog 47 #[.slice oa m oc, .slice (some ⟨L, off, none⟩) n c] w fun e w' => PutR B w w' (m + n * 4) (xs ++ l.flatMap be4) e := by
  obtain ⟨i0, hi, hz0, hz1, hz2⟩ := info_parts Try.info5
  have h0 : putI B w L off n c m xs l (fun i => (#[Value.slice oa m oc, .slice (some ⟨L, off, none⟩) n c, undef, undef, .slice none 0 0, undef, undef, .slice (some ⟨L, off, none⟩) n c, .int .i64 (n : Int), .int .i64 0] : Array Value).getD i undef) w := ⟨0, oa, m, oc, Nat.zero_le _, by omega, rfl, rfl, rfl, rfl, by rw [List.take_zero]; show w.ownsRow B 5 1 _ m (vb (xs ++ [])); rw [List.append_nil]; exact h, hne, row_lt hL, rfl, Below.refl _ _⟩
  have H0 := hid h0
  have HCS := hid hcs
  have HBB := hid hb
  have Hl := hid hl
  have HL := hid hL
  clear h hcs hb hl h0 hne hL
  go_enter Try.func47, Try.ntmps47
  refine wp_seq_k (fun K0 hK0 => ?_)
  go_wp2_with fail
  refine hK0.out _ _ ?_
  refine wp_seq_k (fun K1 hK1 => ?_)
  refine wp_seq_k (fun K2 hK2 => ?_)
  go_wp2_with fail
  refine hK2.out _ _ ?_
  refine wp_block ?_
  refine wp_loop_fr 29 (putI B w L off n c m xs l) (fun y' _ => n - (intOf (y' 9)).toNat) ⟨rfl, rfl, ?_⟩ ?_
  · obtain ⟨k, oa', m', oc', h1, h2, h3, h4, h5, h6, h7⟩ := H0.out
    exact ⟨k, oa', m', oc', h1, h2, h3, h4, h5, h6, h7⟩
  clear H0
  rintro z W ⟨k, oa, m', oc, hk, hm', s0, s7, s8, s9, hS⟩
  have HS := hid hS
  have Hm := hid hm'
  have hm2 : m' ≤ 10400 := by omega
  clear hS hm'
  rw [fr29p]
  simp only [s0, s7, s8, s9]
  clear s0 s7 s8 s9
  by_cases hlt : k < n
  · have d1 : decide ((k : Int) < (n : Int)) = true := decide_eq_true (by omega)
    have hkI : (k : Int) < (n : Int) := by omega
    have hk0' : (0 : Int) ≤ (k : Int) := by omega
    have hkt : ((k : Nat) : Int).toNat = k := rfl
    have hkl : k < l.length := by rw [Hl.out]; exact hlt
    have c0 : W.cell? ⟨L, off + k, none⟩ = some (.int .i64 (nth l k : Nat)) := by rw [cell_of_row _ _ _ _ _ _ (HS.out.row.trans HL.out)]; exact HCS.out k hlt
    have hxb : nth l k ≤ 4294967295 := by rw [nth_get hkl]; exact HBB.out _ (List.getElem_mem hkl)
    have hT : Hid ((l.take (k + 1)).flatMap be4 = (l.take k).flatMap be4 ++ be4 (nth l k)) := by
      unfold Hid
      rw [List.take_add_one, List.getElem?_eq_getElem hkl, nth_get hkl, Option.toList_some, List.flatMap_append]
      simp
    generalize nth l k = x at *
    obtain ⟨x0, e0⟩ : ∃ x0, x0 = x / 16777216 % 256 := ⟨_, rfl⟩
    obtain ⟨x1, e1⟩ : ∃ x1, x1 = x / 65536 % 256 := ⟨_, rfl⟩
    obtain ⟨x2, e2⟩ : ∃ x2, x2 = x / 256 % 256 := ⟨_, rfl⟩
    obtain ⟨x3, e3⟩ : ∃ x3, x3 = x % 256 := ⟨_, rfl⟩
    have hbe : be4 x = [x0, x1, x2, x3] := by unfold be4; rw [e0, e1, e2, e3]
    rw [hbe] at hT
    have a0 : IntKind.u8.wrap ((x : Int) / 16777216) = (x0 : Int) := by rw [IntKind.wrap_u8]; omega
    have a1 : IntKind.u8.wrap ((x : Int) / 65536) = (x1 : Int) := by rw [IntKind.wrap_u8]; omega
    have a2 : IntKind.u8.wrap ((x : Int) / 256) = (x2 : Int) := by rw [IntKind.wrap_u8]; omega
    have a3 : IntKind.u8.wrap (x : Int) = (x3 : Int) := by rw [IntKind.wrap_u8]; omega
    have b0 : (x : Int) / 16777216 % 256 = (x0 : Int) := by omega
    have b1 : (x : Int) / 65536 % 256 = (x1 : Int) := by omega
    have b2 : (x : Int) / 256 % 256 = (x2 : Int) := by omega
    have b3 : (x : Int) % 256 = (x3 : Int) := by omega
    clear e0 e1 e2 e3 hbe
    go_upto_block 1 with (fail)
    refine wp_block ?_
    refine wp_seq_k (fun K3 hK3 => ?_)
    go_wp2_with fail
    refine hK3.out _ _ ?_
    clear c0
    have bN := below_alloc W (.cells #[.int .u8 (x0 : Int), .int .u8 (x1 : Int), .int .u8 (x2 : Int), .int .u8 (x3 : Int)] 5)
    have hnew : Hid (∀ (j : Nat) (u : Value), ([.int .u8 (x0 : Int), .int .u8 (x1 : Int), .int .u8 (x2 : Int), .int .u8 (x3 : Int)] : List Value)[j]? = some u → (W.alloc (.cells #[.int .u8 (x0 : Int), .int .u8 (x1 : Int), .int .u8 (x2 : Int), .int .u8 (x3 : Int)] 5)).cell? ((⟨W.heap.size, 0, none⟩ : Addr).add j) = some u) := new_cells W [.int .u8 (x0 : Int), .int .u8 (x1 : Int), .int .u8 (x2 : Int), .int .u8 (x3 : Int)] 5
    have ho2 := hid (ownsRow_below HS.out.own bN)
    have hB1 : B ≤ (W.alloc (.cells #[.int .u8 (x0 : Int), .int .u8 (x1 : Int), .int .u8 (x2 : Int), .int .u8 (x3 : Int)] 5)).heap.size := Nat.le_trans hB (Nat.le_trans HS.out.blw.size bN.size)
    have HBN := hid bN
    clear bN
    obtain ⟨ys, hys⟩ : ∃ ys, ys = xs ++ (l.take k).flatMap be4 := ⟨_, rfl⟩
    have HE : Hid (vb (xs ++ (l.take (k + 1)).flatMap be4) = vb ys ++ [.int .u8 (x0 : Int), .int .u8 (x1 : Int), .int .u8 (x2 : Int), .int .u8 (x3 : Int)]) := by
      unfold Hid
      rw [hT.out, ← List.append_assoc, ← hys, vb_append]
      rfl
    rw [← hys] at ho2 HS
    clear hys hT
    go_wp2_with (at_builtin; refine wpList_append_own_at _ rfl _ _ 22 rfl B 5 i0 _ 1 1 Try.underlying22 hi hz0 hz1 hz2 rfl (by decide) (.slice oa m' oc) m' (vb ys) rfl ho2.out ⟨W.heap.size, 0, none⟩ 4 4 [.int .u8 (x0 : Int), .int .u8 (x1 : Int), .int .u8 (x2 : Int), .int .u8 (x3 : Int)] rfl rfl hnew.out (by simp [Value.oneCell']) (by unfold maxLen; omega) (by omega) hB1 ?_)
    intro v' W3 own4 g4 hnl hat
    obtain ⟨va, vc, rfl, _, _⟩ := own_slice own4
    rw [← HE.out] at own4
    have hb4 := ((HS.out.blw.trans (HBN.out.mono (Nat.le_trans hB HS.out.blw.size))).grown g4 (Nat.le_trans hB (Nat.le_trans HS.out.blw.size HBN.out.size)) (fun j e => (ho2.out.lt j e).1))
    have hne2 : (Value.slice va (m' + 4) vc).ownBlock ≠ some L := by
      rcases hat with e | e
      · rw [e]; exact HS.out.ne
      · rw [e]
        intro e2
        injection e2 with e2
        have := HS.out.L0
        have := HBN.out.size
        omega
    have hrow : W3.heap[L]? = w.heap[L]? := (g4.block L (Nat.lt_of_lt_of_le HS.out.L0 HBN.out.size) (fun e => HS.out.ne e.symm)).trans ((HBN.out.block L HS.out.L0).trans HS.out.row)
    have hL3 : L < W3.heap.size := Nat.lt_of_lt_of_le HS.out.L0 (Nat.le_trans HBN.out.size g4.size)
    have HS4 : Hid (PutS B w W3 L va (m' + 4) vc (xs ++ (l.take (k + 1)).flatMap be4)) := hid ⟨own4, hne2, hL3, hrow, hb4⟩
    clear own4 g4 hnl hat hb4 hne2 hrow hL3 HE HBN hnew ho2 hB1 HS a0 a1 a2 a3 b0 b1 b2 b3
    go_wp2_with fail
    refine ⟨rfl, rfl, ⟨k + 1, va, m' + 4, vc, by omega, by have := Hm.out; omega, rfl, rfl, rfl, ?_, HS4.out⟩, ?_⟩
    · show Value.int .i64 _ = Value.int .i64 _
      go_num
    · show n - (intOf (Value.int .i64 _)).toNat < _
      simp [intOf]
      omega
  · obtain rfl : k = n := by omega
    have d1 : decide ((k : Int) < (k : Int)) = false := decide_eq_false (by omega)
    have ht : l.take k = l := List.take_of_length_le (by rw [Hl.out]; exact Nat.le_refl _)
    rw [ht] at HS
    clear ht
    go_wp2_with fail
    refine hK1.out _ _ ?_
    go_wp2_with fail
    go_ret
    refine ⟨⟨oa, oc, by rw [← Hm.out]; rfl, by rw [← Hm.out]; exact HS.out.own⟩, HS.out.blw⟩
end Go.Proofs.Ytopmamgdfngdoaa
/- append of a row that reads (nil or not), at one operation. -/
namespace Go.Proofs.Ytopmamgdfngdoaa
set_option linter.unusedVariables false
open Go.RowKit

theorem wp_append_rd {P : Program} {w : World} {o : Oper} {a : Act} {K : Act → World → Prop} {Q : Exit → Act → World → Prop} (s x : Operand) (t : TypeId)
    (ho : o.op = .call { callee := .builtin .append, args := #[s, x], argTypes := #[t, t] })
    (base : Nat) (e : TypeId) (i : TypeInfo) (z : Value) (bytes : Nat) (ht : P.underlying t = some (.slice e)) (hi : P.info? e = some i) (hz : i.zero = some z) (hsize : i.size = 1) (hby : i.bytes = bytes) (hzs : z.cells.size = 1)
    (ao : Option Addr) (n cap : Nat) (xs : List Value) (hs : a.eval s = .slice ao n cap) (hown : w.ownsRow base e 1 (.slice ao n cap) n xs)
    (bo : Option Addr) (m c : Nat) (ys : List Value) (hx : a.eval x = .slice bo m c) (hrd : Rd w bo m c ys) (h1 : ∀ u ∈ ys, u.oneCell' = true)
    (hbytes : (n + m) * bytes ≤ 140737488355328) (h63 : n + m ≤ maxLen) (hbase : base ≤ w.heap.size)
    (h : ∀ ao' cap' w', w'.ownsRow base e 1 (.slice ao' (n + m) cap') (n + m) (xs ++ ys) → w.grownBy w' (Value.slice ao n cap).ownBlock → Below base w w' → K (a.put o.dst (.slice ao' (n + m) cap')) w') : o.wp P a w K Q := by
  cases bo with
  | none =>
    obtain rfl := hrd.isnil rfl
    obtain rfl : m = 0 := by have := hrd.le; omega
    obtain rfl : ys = [] := List.eq_nil_of_length_eq_zero hrd.len
    have hrun := run_append_owned_none (P := P) w base t o.type e i 1 ht hi (.slice ao n cap) n xs hown
    unfold Oper.wp execOp
    simp only [ho, resolve, invoke, builtin, Sem.run_bind, Sem.run_pure, Result.andThen_ok, List.map_toArray, List.map_cons, List.map_nil, hs, hx, hrun]
    exact h _ _ _ (by simpa using hown) ⟨rfl, rfl, rfl, Nat.le_refl _, fun _ _ _ => rfl⟩ (Below.refl _ _)
  | some ad =>
    refine wp_append_own_at s x t ho base e i z 1 bytes ht hi hz hsize hby hzs (by decide) _ n xs hs hown ad m c ys hx (by rw [hrd.len]; omega) ?_ h1 h63 hbytes hbase ?_
    · intro j u hj
      have hjn : j < m := by have h1 := (List.getElem?_eq_some_iff.1 hj).1; have h2 := hrd.len; omega
      obtain ⟨b', off', ha, _, hc⟩ := hrd.mem (by omega)
      cases ha
      rw [Addr.add_lit, hc j hjn]
      exact hj
    · intro v' w' ho' hg _
      obtain ⟨ao', cap', rfl, _, _⟩ := own_slice ho'
      obtain ⟨_, _, _, _, hown2⟩ := own_slice hown
      exact h _ _ _ ho' hg ((Below.refl base w).grown hg hbase hown2)
end Go.Proofs.Ytopmamgdfngdoaa
/- deliver: Encode (printed by genenc.py). -/
namespace Go.Proofs.Ytopmamgdfngdoaa
set_option linter.unusedVariables false
open Go.RowKit

/-- a note's bytes -/
def nby (D : DP) : NT → List Nat
  | .nm => [1, 0, 7] ++ (be4 D.P.F ++ [108, 111, 103])
  | .np x y => [2, 0, 7] ++ (be4 x ++ sub D.fl x y)
  | .ne => [3, 0, 7] ++ (be4 D.P.F ++ be4 D.s)
  | .ng l => [4, 0, 7] ++ l.flatMap fun s => be4 s.1 ++ be4 s.2
  | .nd => [5, 0, 7] ++ [0]
  | .se => [6, 0, 7] ++ [3]
  | .sd => [6, 0, 7] ++ [5]
structure EncR (W0 W : World) (bs : List Nat) (e : Ending) : Prop where
  ex : ∃ a c, e = .returned (.tuple #[.slice a bs.length c, .int .i64 0]) ∧ W.ownsRow W0.heap.size 5 1 (.slice a bs.length c) bs.length (vb bs)
  blw : Below W0.heap.size W0 W
theorem EncR.of {W0 W : World} {B n : Nat} {bs : List Nat} {a : Option Addr} {c : Nat} {e : Ending} (he : e = .returned (.tuple #[.slice a n c, .int .i64 0])) (hn : n = bs.length) (ho : W.ownsRow B 5 1 (.slice a n c) n (vb bs)) (hB : W0.heap.size ≤ B) (hb : Below W0.heap.size W0 W) : EncR W0 W bs e := by
  subst hn
  exact ⟨⟨a, c, he, ownsRow_mono ho hB⟩, hb⟩
theorem log_cells : Lib.strCells logS = vb [108, 111, 103] := rfl
theorem wp_append_string {P : Program} {w : World} {o : Oper} {a : Act} {K : Act → World → Prop} {Q : Exit → Act → World → Prop} (s x : Operand) (t u : TypeId)
    (ho : o.op = .call { callee := .builtin .append, args := #[s, x], argTypes := #[t, u] })
    (base : Nat) (e : TypeId) (i : TypeInfo) (ht : P.underlying t = some (.slice e)) (hu : P.underlying u = some .string) (hi : P.info? e = some i) (hz : i.zero = some (.int .u8 0)) (hsize : i.size = 1) (hby : i.bytes = 1)
    (v : Value) (n : Nat) (xs : List Value) (hs : a.eval s = v) (hown : w.ownsRow base e 1 v n xs) (str : ByteArray) (hx : a.eval x = .string str) (h63 : n + str.size ≤ maxLen) (hbytes : n + str.size ≤ 140737488355328) (hbase : base ≤ w.heap.size)
    (h : ∀ v' w', w'.ownsRow base e 1 v' (n + str.size) (xs ++ Lib.strCells str) → w.grownBy w' v.ownBlock → K (a.put o.dst v') w') : o.wp P a w K Q := by
  obtain ⟨v', w', hr, h2, h3, _⟩ := Lib.run_append_own_string (P := P) w base t u o.type e i ht hu hi hz hsize hby v n xs hown str h63 hbytes hbase
  unfold Oper.wp execOp
  simp only [ho, resolve, invoke, builtin, Sem.run_bind, Sem.run_pure, Result.andThen_ok, List.map_toArray, List.map_cons, List.map_nil, hs, hx, hr]
  exact h v' w' h2 h3
set_option maxRecDepth 1000000 in
set_option maxHeartbeats 8000000 in
theorem Enc_nm (D : DP) (hD : DOk D) (w : World) :
    Calls Try.prog 27 #[.agg #[.int .i64 1, .int .i64 7, .string logS, .int .i64 (D.P.F : Int), .int .i64 0, .int .i64 0, .slice none 0 0, .slice none 0 0, .int .i64 0, .int .i64 0]] w fun e w' => EncR w w' (nby D (.nm)) e := by
  have hF := hD.P.F
  have hfl := hD.len
  obtain ⟨i0, hi, hz0, hz1, hz2⟩ := info_parts Try.info5
  have bN := below_alloc w (.cells #[.int .i64 1, .int .i64 7, .string logS, .int .i64 (D.P.F : Int), .int .i64 0, .int .i64 0, .slice none 0 0, .slice none 0 0, .int .i64 0, .int .i64 0] 60)
  have AN := hid (heap_alloc_new w (.cells #[.int .i64 1, .int .i64 7, .string logS, .int .i64 (D.P.F : Int), .int .i64 0, .int .i64 0, .slice none 0 0, .slice none 0 0, .int .i64 0, .int .i64 0] 60))
  have hmy := hid (fun (W : World) (hW : Below w.heap.size w W) => may_nm logS D.P.F W (by rw [log_len]; omega) (by omega))
  have HB := hid bN
  clear bN
  go_enter Try.func27, Try.ntmps27
  refine wp_seq_k (fun K0 hK0 => ?_)
  go_wp2_with fail
  refine hK0.out _ _ ?_
  obtain ⟨N, hN⟩ : ∃ N, N = w.heap.size := ⟨_, rfl⟩
  rw [← hN] at AN ⊢
  clear hN
  generalize w.alloc (.cells #[.int .i64 1, .int .i64 7, .string logS, .int .i64 (D.P.F : Int), .int .i64 0, .int .i64 0, .slice none 0 0, .slice none 0 0, .int .i64 0, .int .i64 0] 60) = V at *
  have hmy2 := hid (hmy.out V HB.out)
  clear hmy
  refine wp_seq_k (fun K1 hK1 => ?_)
  refine wp_seq_k (fun K2 hK2 => ?_)
  have AN0 := AN.out
  go_wp2_with (with_reducible refine wpList_load_row (o := ⟨some 7, _, _, _, _, _⟩) rfl 60 _ rfl N rfl 60 _ _ _ AN0 Try.underlying60 rfl (by kernel_rfl) ?_)
  refine hmy2.out.mono ?_
  rintro e V1 ⟨rfl, hb⟩
  have A1 := hid (row_below AN.out hb)
  have B1 := hid (HB.out.trans (hb.mono HB.out.size))
  clear hb hmy2 AN HB AN0
  go_wp2_with fail
  refine hK2.out _ _ ?_
  refine wp_cond_false rfl ?_
  go_wp2_with fail
  refine hK1.out _ _ ?_
  have n0 : V1.cell? ⟨N, 0, none⟩ = some (.int .i64 1) := by rw [cell_of_row _ _ _ _ _ _ A1.out]; rfl
  have n1 : V1.cell? ⟨N, 1, none⟩ = some (.int .i64 7) := by rw [cell_of_row _ _ _ _ _ _ A1.out]; rfl
  refine wp_seq_k (fun K3 hK3 => ?_)
  go_wp2_with fail
  refine hK3.out _ _ ?_
  clear n0 n1
  have b2 := below_alloc V1 (.cells #[.int .u8 1, .int .u8 0, .int .u8 7] 5)
  have o2 : (V1.alloc (.cells #[.int .u8 1, .int .u8 0, .int .u8 7] 5)).ownsRow V1.heap.size 5 1 (.slice (some ⟨V1.heap.size, 0, none⟩) 3 3) 3 (vb [1, 0, 7]) := World.ownsRow_lit (base := V1.heap.size) (e := 5) (size := 1) V1 #[.int .u8 1, .int .u8 0, .int .u8 7] 3 (Nat.le_refl _) (by unfold maxLen; omega) rfl
  have A2 := hid (row_below A1.out b2)
  have B2 := hid (B1.out.trans (b2.mono B1.out.size))
  have O2 := hid o2
  have hB0 : w.heap.size ≤ V1.heap.size := B1.out.size
  have hNB : N < V1.heap.size := row_lt A1.out
  obtain ⟨B0, hBe⟩ : ∃ B0, B0 = V1.heap.size := ⟨_, rfl⟩
  have hV2 : B0 < (V1.alloc (.cells #[.int .u8 1, .int .u8 0, .int .u8 7] 5)).heap.size := by rw [hBe]; exact row_lt (heap_alloc_new V1 _)
  rw [← hBe] at O2 hB0 hNB ⊢
  clear b2 o2 hBe A1 B1
  generalize V1.alloc (.cells #[.int .u8 1, .int .u8 0, .int .u8 7] 5) = V2 at *
  refine wp_seq_k (fun K4 hK4 => ?_)
  have n0 : V2.cell? ⟨N, 0, none⟩ = some (.int .i64 1) := by rw [cell_of_row _ _ _ _ _ _ A2.out]; rfl
  refine wp_seq_k (fun K5 hK5 => ?_)
  go_wp2_with fail
  refine hK5.out _ _ ?_
  clear n0
  refine wp_block ?_
  refine wp_seq_k (fun T1 hT1 => ?_)
  go_wp2_with fail
  refine hT1.out _ _ ?_
  refine wp_cond_true rfl ?_
  have hdr := (Below.refl V2.heap.size V2).drew
  have A3 := hid (row_below A2.out hdr)
  have B3 := hid (B2.out.trans (hdr.mono (by omega)))
  have O3 := hid (ownsRow_below O2.out hdr)
  have hV3 : B0 < V2.drew.heap.size := hV2
  clear hdr A2 B2 O2 hV2
  refine wp_region_can_all [3, 4, 7] [0, 1, 2, 5, 6, 3, 4, 7, 8] (fun u u' => u'.heap[N]? = u.heap[N]?) (fun _ => rfl) (fun _ _ _ h k => k.trans h) (by kernel_rfl) (by kernel_rfl) ?_
  simp only [List.map_cons, List.map_nil, List.contains_cons, List.contains_nil, List.getD_cons_zero, List.getD_cons_succ, Nat.reduceBEq, Bool.or_false, Bool.or_true]
  generalize V2.drew = U at *
  have f1 : ∀ w' : World, w'.heap[N]? = U.heap[N]? → w'.cell? ⟨N, 3, none⟩ = some (.int .i64 (D.P.F : Int)) := fun w' h => by rw [cell_of_row _ _ _ _ _ _ (h.trans A3.out)]; rfl
  have f2 : ∀ w' : World, w'.heap[N]? = U.heap[N]? → w'.cell? ⟨N, 2, none⟩ = some (.string logS) := fun w' h => by rw [cell_of_row _ _ _ _ _ _ (h.trans A3.out)]; rfl
  iterate 5 (refine wpL_do rfl (fun w' hw' => (by go_simp; rfl)) ?_; simp only [Act.put, List.setIfInBounds_toArray, List.set_cons_succ, List.set_cons_zero])
  clear f1 f2
  have b4 := below_alloc U (.cells #[.int .i64 (D.P.F : Int)] 3)
  have AL := heap_alloc_new U (.cells #[.int .i64 (D.P.F : Int)] 3)
  refine wpL_call rfl (fun K hK => ?_)
  go_wp2_with fail
  refine hK _ _ (b4.block N (row_lt A3.out)) ?_
  clear hK K
  try simp only [Act.put, List.setIfInBounds_toArray, List.set_cons_succ, List.set_cons_zero]
  have A4 := hid (row_below A3.out b4)
  have B4 := hid (B3.out.trans (b4.mono (by omega)))
  have O4 := hid (ownsRow_below O3.out b4)
  have hneL : (Value.slice (some ⟨B0, 0, none⟩) 3 3).ownBlock ≠ some U.heap.size := fun e => by have := (O3.out.lt _ e).2; omega
  have hV4 : B0 ≤ (U.alloc (.cells #[.int .i64 (D.P.F : Int)] 3)).heap.size := Nat.le_trans (Nat.le_of_lt hV3) b4.size
  have hput := hid (put_ok B0 U.heap.size 0 1 1 3 3 (some ⟨B0, 0, none⟩) 3 [1, 0, 7] [D.P.F] #[.int .i64 (D.P.F : Int)] (U.alloc (.cells #[.int .i64 (D.P.F : Int)] 3)) O4.out AL rfl (fun j hj => by obtain rfl : j = 0 := (by omega); rfl) hneL hV4 (fun z hz => by rw [List.mem_singleton] at hz; subst hz; omega) (by omega) (by omega))
  clear b4 AL hneL
  generalize U.alloc (.cells #[.int .i64 (D.P.F : Int)] 3) = U1 at *
  generalize U.heap.size = L at *
  refine wpL_call rfl (fun K hK => ?_)
  go_wp2_with fail
  refine hput.out.mono ?_
  rintro e U2 ⟨⟨oa, oc, rfl, ho⟩, hb⟩
  refine hK _ _ ((hb.block N hNB)) ?_
  clear hK K
  try simp only [Act.put, List.setIfInBounds_toArray, List.set_cons_succ, List.set_cons_zero]
  have A5 := hid ((hb.block N hNB).trans A4.out)
  have O5 := hid ho
  have B5 := hid (B4.out.trans (hb.mono hB0))
  have hV5 : B0 ≤ U2.heap.size := Nat.le_trans hV4 hb.size
  clear ho hb hput O4 A4 B4
  refine wpL_call rfl (fun K hK => ?_)
  refine wp_append_string (.tmp 29) (.tmp 31) 22 9 rfl B0 5 i0 Try.underlying22 Try.underlying9 hi hz0 hz1 hz2 (.slice oa (3 + 1 * 4) oc) (3 + 1 * 4) (vb ([1, 0, 7] ++ [D.P.F].flatMap be4)) rfl O5.out logS rfl (by rw [log_len]; unfold maxLen; omega) (by rw [log_len]; omega) hV5 ?_
  intro v' U3 own4 g4
  obtain ⟨va, vc, rfl, _, _⟩ := own_slice own4
  have hNn : (Value.slice oa (3 + 1 * 4) oc).ownBlock ≠ some N := fun e => by have := (O5.out.lt _ e).1; omega
  have hN3 := g4.block N (row_lt A5.out) (fun e => hNn e.symm)
  have HB6 := hid (B5.out.grown g4 B5.out.size (fun j e => Nat.le_trans hB0 (O5.out.lt j e).1))
  rw [log_cells, ← vb_append] at own4
  have HO := hid own4
  refine hK _ _ hN3 ?_
  clear hK K own4 g4 hNn hN3 A5 O5 B5
  try simp only [Act.put, List.setIfInBounds_toArray, List.set_cons_succ, List.set_cons_zero]
  iterate 1 (refine wpL_do rfl (fun w' hw' => (by go_simp; rfl)) ?_; simp only [Act.put, List.setIfInBounds_toArray, List.set_cons_succ, List.set_cons_zero])
  refine wpL_nil ?_
  go_wp2_with fail
  refine hK4.out _ _ ?_
  go_wp2_with fail
  refine bodyPost_ret (results_tmp2 rfl _ _ _) rfl ?_
  refine EncR.of rfl (by rfl) (by have h := HO.out; exact h) hB0 HB6.out
set_option maxRecDepth 1000000 in
set_option maxHeartbeats 8000000 in
theorem Enc_np (D : DP) (hD : DOk D) (x y dn dc : Nat) (da : Option Addr) (w : World) (hdn : dn = y - x) (hxy : x < y) (hy : y ≤ D.P.F) (hda : RdT 5 w da (y - x) dc (vb (sub D.fl x y))) :
    Calls Try.prog 27 #[.agg #[.int .i64 2, .int .i64 7, .string { data := #[] }, .int .i64 0, .int .i64 0, .int .i64 (x : Int), .slice da dn dc, .slice none 0 0, .int .i64 0, .int .i64 0]] w fun e w' => EncR w w' (nby D (.np x y)) e := by
  have hF := hD.P.F
  have hfl := hD.len
  obtain ⟨i0, hi, hz0, hz1, hz2⟩ := info_parts Try.info5
  have bN := below_alloc w (.cells #[.int .i64 2, .int .i64 7, .string { data := #[] }, .int .i64 0, .int .i64 0, .int .i64 (x : Int), .slice da dn dc, .slice none 0 0, .int .i64 0, .int .i64 0] 60)
  have AN := hid (heap_alloc_new w (.cells #[.int .i64 2, .int .i64 7, .string { data := #[] }, .int .i64 0, .int .i64 0, .int .i64 (x : Int), .slice da dn dc, .slice none 0 0, .int .i64 0, .int .i64 0] 60))
  have hmy := hid (fun (W : World) (hW : Below w.heap.size w W) => may_np x da dn dc W (by omega) (by omega))
  have HB := hid bN
  have hsl := sub_len (fl := D.fl) (x := x) (y := y) (by omega)
  have HDn := hid hdn
  have HDa := hid hda
  have hdn0 : dn ≤ 120 := by omega
  rw [← hdn] at hsl
  have Hsl := hid hsl
  clear hdn hda hsl
  clear bN
  go_enter Try.func27, Try.ntmps27
  refine wp_seq_k (fun K0 hK0 => ?_)
  go_wp2_with fail
  refine hK0.out _ _ ?_
  obtain ⟨N, hN⟩ : ∃ N, N = w.heap.size := ⟨_, rfl⟩
  rw [← hN] at AN ⊢
  clear hN
  generalize w.alloc (.cells #[.int .i64 2, .int .i64 7, .string { data := #[] }, .int .i64 0, .int .i64 0, .int .i64 (x : Int), .slice da dn dc, .slice none 0 0, .int .i64 0, .int .i64 0] 60) = V at *
  have hmy2 := hid (hmy.out V HB.out)
  clear hmy
  refine wp_seq_k (fun K1 hK1 => ?_)
  refine wp_seq_k (fun K2 hK2 => ?_)
  have AN0 := AN.out
  go_wp2_with (with_reducible refine wpList_load_row (o := ⟨some 7, _, _, _, _, _⟩) rfl 60 _ rfl N rfl 60 _ _ _ AN0 Try.underlying60 rfl (by kernel_rfl) ?_)
  refine hmy2.out.mono ?_
  rintro e V1 ⟨rfl, hb⟩
  have A1 := hid (row_below AN.out hb)
  have B1 := hid (HB.out.trans (hb.mono HB.out.size))
  clear hb hmy2 AN HB AN0
  go_wp2_with fail
  refine hK2.out _ _ ?_
  refine wp_cond_false rfl ?_
  go_wp2_with fail
  refine hK1.out _ _ ?_
  have n0 : V1.cell? ⟨N, 0, none⟩ = some (.int .i64 2) := by rw [cell_of_row _ _ _ _ _ _ A1.out]; rfl
  have n1 : V1.cell? ⟨N, 1, none⟩ = some (.int .i64 7) := by rw [cell_of_row _ _ _ _ _ _ A1.out]; rfl
  refine wp_seq_k (fun K3 hK3 => ?_)
  go_wp2_with fail
  refine hK3.out _ _ ?_
  clear n0 n1
  have b2 := below_alloc V1 (.cells #[.int .u8 2, .int .u8 0, .int .u8 7] 5)
  have o2 : (V1.alloc (.cells #[.int .u8 2, .int .u8 0, .int .u8 7] 5)).ownsRow V1.heap.size 5 1 (.slice (some ⟨V1.heap.size, 0, none⟩) 3 3) 3 (vb [2, 0, 7]) := World.ownsRow_lit (base := V1.heap.size) (e := 5) (size := 1) V1 #[.int .u8 2, .int .u8 0, .int .u8 7] 3 (Nat.le_refl _) (by unfold maxLen; omega) rfl
  have A2 := hid (row_below A1.out b2)
  have B2 := hid (B1.out.trans (b2.mono B1.out.size))
  have O2 := hid o2
  have hB0 : w.heap.size ≤ V1.heap.size := B1.out.size
  have hNB : N < V1.heap.size := row_lt A1.out
  obtain ⟨B0, hBe⟩ : ∃ B0, B0 = V1.heap.size := ⟨_, rfl⟩
  have hV2 : B0 < (V1.alloc (.cells #[.int .u8 2, .int .u8 0, .int .u8 7] 5)).heap.size := by rw [hBe]; exact row_lt (heap_alloc_new V1 _)
  rw [← hBe] at O2 hB0 hNB ⊢
  clear b2 o2 hBe A1 B1
  generalize V1.alloc (.cells #[.int .u8 2, .int .u8 0, .int .u8 7] 5) = V2 at *
  refine wp_seq_k (fun K4 hK4 => ?_)
  have n0 : V2.cell? ⟨N, 0, none⟩ = some (.int .i64 2) := by rw [cell_of_row _ _ _ _ _ _ A2.out]; rfl
  refine wp_seq_k (fun K5 hK5 => ?_)
  go_wp2_with fail
  refine hK5.out _ _ ?_
  clear n0
  refine wp_block ?_
  refine wp_seq_k (fun T1 hT1 => ?_)
  go_wp2_with fail
  refine hT1.out _ _ ?_
  refine wp_cond_false rfl ?_
  refine wp_seq_k (fun T2 hT2 => ?_)
  go_wp2_with fail
  refine hT2.out _ _ ?_
  refine wp_cond_true rfl ?_
  have hdr := (Below.refl V2.heap.size V2).drew
  have A3 := hid (row_below A2.out hdr)
  have B3 := hid (B2.out.trans (hdr.mono (by omega)))
  have O3 := hid (ownsRow_below O2.out hdr)
  have hV3 : B0 < V2.drew.heap.size := hV2
  clear hdr A2 B2 O2 hV2
  refine wp_region_can_all [3, 4, 7] [0, 1, 2, 5, 6, 3, 4, 7, 8] (fun u u' => u'.heap[N]? = u.heap[N]?) (fun _ => rfl) (fun _ _ _ h k => k.trans h) (by kernel_rfl) (by kernel_rfl) ?_
  simp only [List.map_cons, List.map_nil, List.contains_cons, List.contains_nil, List.getD_cons_zero, List.getD_cons_succ, Nat.reduceBEq, Bool.or_false, Bool.or_true]
  generalize V2.drew = U at *
  have f1 : ∀ w' : World, w'.heap[N]? = U.heap[N]? → w'.cell? ⟨N, 5, none⟩ = some (.int .i64 (x : Int)) := fun w' h => by rw [cell_of_row _ _ _ _ _ _ (h.trans A3.out)]; rfl
  have f2 : ∀ w' : World, w'.heap[N]? = U.heap[N]? → w'.cell? ⟨N, 6, none⟩ = some (.slice da dn dc) := fun w' h => by rw [cell_of_row _ _ _ _ _ _ (h.trans A3.out)]; rfl
  iterate 5 (refine wpL_do rfl (fun w' hw' => (by go_simp; rfl)) ?_; simp only [Act.put, List.setIfInBounds_toArray, List.set_cons_succ, List.set_cons_zero])
  clear f1 f2
  have b4 := below_alloc U (.cells #[.int .i64 (x : Int)] 3)
  have AL := heap_alloc_new U (.cells #[.int .i64 (x : Int)] 3)
  refine wpL_call rfl (fun K hK => ?_)
  go_wp2_with fail
  refine hK _ _ (b4.block N (row_lt A3.out)) ?_
  clear hK K
  try simp only [Act.put, List.setIfInBounds_toArray, List.set_cons_succ, List.set_cons_zero]
  have A4 := hid (row_below A3.out b4)
  have B4 := hid (B3.out.trans (b4.mono (by omega)))
  have O4 := hid (ownsRow_below O3.out b4)
  have hneL : (Value.slice (some ⟨B0, 0, none⟩) 3 3).ownBlock ≠ some U.heap.size := fun e => by have := (O3.out.lt _ e).2; omega
  have hV4 : B0 ≤ (U.alloc (.cells #[.int .i64 (x : Int)] 3)).heap.size := Nat.le_trans (Nat.le_of_lt hV3) b4.size
  have hput := hid (put_ok B0 U.heap.size 0 1 1 3 3 (some ⟨B0, 0, none⟩) 3 [2, 0, 7] [x] #[.int .i64 (x : Int)] (U.alloc (.cells #[.int .i64 (x : Int)] 3)) O4.out AL rfl (fun j hj => by obtain rfl : j = 0 := (by omega); rfl) hneL hV4 (fun z hz => by rw [List.mem_singleton] at hz; subst hz; omega) (by omega) (by omega))
  clear b4 AL hneL
  generalize U.alloc (.cells #[.int .i64 (x : Int)] 3) = U1 at *
  generalize U.heap.size = L at *
  refine wpL_call rfl (fun K hK => ?_)
  go_wp2_with fail
  refine hput.out.mono ?_
  rintro e U2 ⟨⟨oa, oc, rfl, ho⟩, hb⟩
  refine hK _ _ ((hb.block N hNB)) ?_
  clear hK K
  try simp only [Act.put, List.setIfInBounds_toArray, List.set_cons_succ, List.set_cons_zero]
  have A5 := hid ((hb.block N hNB).trans A4.out)
  have O5 := hid ho
  have B5 := hid (B4.out.trans (hb.mono hB0))
  have hV5 : B0 ≤ U2.heap.size := Nat.le_trans hV4 hb.size
  clear ho hb hput O4 A4 B4
  have hrd := hid (HDa.out.rd.below (show Below w.heap.size w U2 from B5.out))
  rw [← HDn.out] at hrd
  refine wpL_call rfl (fun K hK => ?_)
  refine wp_append_rd (.tmp 39) (.tmp 41) 22 rfl B0 5 i0 _ 1 Try.underlying22 hi hz0 hz1 hz2 rfl oa (3 + 1 * 4) oc (vb ([2, 0, 7] ++ [x].flatMap be4)) rfl O5.out da dn dc (vb (sub D.fl x y)) rfl hrd.out (vb_oneCell _) (by omega) (by unfold maxLen; omega) hV5 ?_
  intro va vc U3 own4 g4 b6
  have hN3 := b6.block N hNB
  have HB6 := hid (B5.out.trans (b6.mono hB0))
  rw [← vb_append] at own4
  have HO := hid own4
  refine hK _ _ hN3 ?_
  clear hK K own4 g4 b6 hN3 A5 O5 B5 hrd
  try simp only [Act.put, List.setIfInBounds_toArray, List.set_cons_succ, List.set_cons_zero]
  iterate 1 (refine wpL_do rfl (fun w' hw' => (by go_simp; rfl)) ?_; simp only [Act.put, List.setIfInBounds_toArray, List.set_cons_succ, List.set_cons_zero])
  refine wpL_nil ?_
  go_wp2_with fail
  refine hK4.out _ _ ?_
  go_wp2_with fail
  refine bodyPost_ret (results_tmp2 rfl _ _ _) rfl ?_
  refine EncR.of rfl (by show _ = ([2, 0, 7] ++ (be4 x ++ sub D.fl x y)).length; rw [List.length_append, List.length_append, be4_len, Hsl.out]; show 3 + 1 * 4 + dn = 3 + (4 + dn); omega) (by have h := HO.out; rw [List.append_assoc] at h; exact h) hB0 HB6.out
set_option maxRecDepth 1000000 in
set_option maxHeartbeats 8000000 in
theorem Enc_ne (D : DP) (hD : DOk D) (w : World) :
    Calls Try.prog 27 #[.agg #[.int .i64 3, .int .i64 7, .string { data := #[] }, .int .i64 (D.P.F : Int), .int .i64 (D.s : Int), .int .i64 0, .slice none 0 0, .slice none 0 0, .int .i64 0, .int .i64 0]] w fun e w' => EncR w w' (nby D (.ne)) e := by
  have hF := hD.P.F
  have hfl := hD.len
  obtain ⟨i0, hi, hz0, hz1, hz2⟩ := info_parts Try.info5
  have bN := below_alloc w (.cells #[.int .i64 3, .int .i64 7, .string { data := #[] }, .int .i64 (D.P.F : Int), .int .i64 (D.s : Int), .int .i64 0, .slice none 0 0, .slice none 0 0, .int .i64 0, .int .i64 0] 60)
  have AN := hid (heap_alloc_new w (.cells #[.int .i64 3, .int .i64 7, .string { data := #[] }, .int .i64 (D.P.F : Int), .int .i64 (D.s : Int), .int .i64 0, .slice none 0 0, .slice none 0 0, .int .i64 0, .int .i64 0] 60))
  have hmy := hid (fun (W : World) (hW : Below w.heap.size w W) => may_ne D.P.F D.s W (by omega) hD.s)
  have HB := hid bN
  clear bN
  go_enter Try.func27, Try.ntmps27
  refine wp_seq_k (fun K0 hK0 => ?_)
  go_wp2_with fail
  refine hK0.out _ _ ?_
  obtain ⟨N, hN⟩ : ∃ N, N = w.heap.size := ⟨_, rfl⟩
  rw [← hN] at AN ⊢
  clear hN
  generalize w.alloc (.cells #[.int .i64 3, .int .i64 7, .string { data := #[] }, .int .i64 (D.P.F : Int), .int .i64 (D.s : Int), .int .i64 0, .slice none 0 0, .slice none 0 0, .int .i64 0, .int .i64 0] 60) = V at *
  have hmy2 := hid (hmy.out V HB.out)
  clear hmy
  refine wp_seq_k (fun K1 hK1 => ?_)
  refine wp_seq_k (fun K2 hK2 => ?_)
  have AN0 := AN.out
  go_wp2_with (with_reducible refine wpList_load_row (o := ⟨some 7, _, _, _, _, _⟩) rfl 60 _ rfl N rfl 60 _ _ _ AN0 Try.underlying60 rfl (by kernel_rfl) ?_)
  refine hmy2.out.mono ?_
  rintro e V1 ⟨rfl, hb⟩
  have A1 := hid (row_below AN.out hb)
  have B1 := hid (HB.out.trans (hb.mono HB.out.size))
  clear hb hmy2 AN HB AN0
  go_wp2_with fail
  refine hK2.out _ _ ?_
  refine wp_cond_false rfl ?_
  go_wp2_with fail
  refine hK1.out _ _ ?_
  have n0 : V1.cell? ⟨N, 0, none⟩ = some (.int .i64 3) := by rw [cell_of_row _ _ _ _ _ _ A1.out]; rfl
  have n1 : V1.cell? ⟨N, 1, none⟩ = some (.int .i64 7) := by rw [cell_of_row _ _ _ _ _ _ A1.out]; rfl
  refine wp_seq_k (fun K3 hK3 => ?_)
  go_wp2_with fail
  refine hK3.out _ _ ?_
  clear n0 n1
  have b2 := below_alloc V1 (.cells #[.int .u8 3, .int .u8 0, .int .u8 7] 5)
  have o2 : (V1.alloc (.cells #[.int .u8 3, .int .u8 0, .int .u8 7] 5)).ownsRow V1.heap.size 5 1 (.slice (some ⟨V1.heap.size, 0, none⟩) 3 3) 3 (vb [3, 0, 7]) := World.ownsRow_lit (base := V1.heap.size) (e := 5) (size := 1) V1 #[.int .u8 3, .int .u8 0, .int .u8 7] 3 (Nat.le_refl _) (by unfold maxLen; omega) rfl
  have A2 := hid (row_below A1.out b2)
  have B2 := hid (B1.out.trans (b2.mono B1.out.size))
  have O2 := hid o2
  have hB0 : w.heap.size ≤ V1.heap.size := B1.out.size
  have hNB : N < V1.heap.size := row_lt A1.out
  obtain ⟨B0, hBe⟩ : ∃ B0, B0 = V1.heap.size := ⟨_, rfl⟩
  have hV2 : B0 < (V1.alloc (.cells #[.int .u8 3, .int .u8 0, .int .u8 7] 5)).heap.size := by rw [hBe]; exact row_lt (heap_alloc_new V1 _)
  rw [← hBe] at O2 hB0 hNB ⊢
  clear b2 o2 hBe A1 B1
  generalize V1.alloc (.cells #[.int .u8 3, .int .u8 0, .int .u8 7] 5) = V2 at *
  refine wp_seq_k (fun K4 hK4 => ?_)
  have n0 : V2.cell? ⟨N, 0, none⟩ = some (.int .i64 3) := by rw [cell_of_row _ _ _ _ _ _ A2.out]; rfl
  refine wp_seq_k (fun K5 hK5 => ?_)
  go_wp2_with fail
  refine hK5.out _ _ ?_
  clear n0
  refine wp_block ?_
  refine wp_seq_k (fun T1 hT1 => ?_)
  go_wp2_with fail
  refine hT1.out _ _ ?_
  refine wp_cond_false rfl ?_
  refine wp_seq_k (fun T2 hT2 => ?_)
  go_wp2_with fail
  refine hT2.out _ _ ?_
  refine wp_cond_false rfl ?_
  refine wp_seq_k (fun T3 hT3 => ?_)
  go_wp2_with fail
  refine hT3.out _ _ ?_
  refine wp_cond_true rfl ?_
  have n3 : V2.cell? ⟨N, 3, none⟩ = some (.int .i64 (D.P.F : Int)) := by rw [cell_of_row _ _ _ _ _ _ A2.out]; rfl
  have n4 : V2.cell? ⟨N, 4, none⟩ = some (.int .i64 (D.s : Int)) := by rw [cell_of_row _ _ _ _ _ _ A2.out]; rfl
  have b4 := below_alloc V2 (.cells #[.int .i64 (D.P.F : Int), .int .i64 (D.s : Int)] 3)
  have AL := heap_alloc_new V2 (.cells #[.int .i64 (D.P.F : Int), .int .i64 (D.s : Int)] 3)
  have B4 := hid (B2.out.trans (b4.mono (by omega)))
  have O4 := hid (ownsRow_below O2.out b4)
  have hneL : (Value.slice (some ⟨B0, 0, none⟩) 3 3).ownBlock ≠ some V2.heap.size := fun e => by have := (O2.out.lt _ e).2; omega
  have hV4 : B0 ≤ (V2.alloc (.cells #[.int .i64 (D.P.F : Int), .int .i64 (D.s : Int)] 3)).heap.size := Nat.le_trans (Nat.le_of_lt hV2) b4.size
  have hds := hD.s
  have hput := hid (put_ok B0 V2.heap.size 0 2 2 3 3 (some ⟨B0, 0, none⟩) 3 [3, 0, 7] [D.P.F, D.s] #[.int .i64 (D.P.F : Int), .int .i64 (D.s : Int)] (V2.alloc (.cells #[.int .i64 (D.P.F : Int), .int .i64 (D.s : Int)] 3)) O4.out AL rfl (fun j hj => by rcases (show j = 0 ∨ j = 1 by omega) with rfl | rfl <;> rfl) hneL hV4 (fun z hz => by simp only [List.mem_cons, List.not_mem_nil, or_false] at hz; rcases hz with rfl | rfl <;> omega) (by omega) (by omega))
  clear b4 AL hneL
  go_wp2_with fail
  refine hput.out.mono ?_
  rintro e U2 ⟨⟨oa, oc, rfl, ho⟩, hb⟩
  have HO := hid ho
  have HB6 := hid (B4.out.trans (hb.mono hB0))
  clear ho hb hput O4 B4 n3 n4
  go_wp2_with fail
  refine hK4.out _ _ ?_
  go_wp2_with fail
  refine bodyPost_ret (results_tmp2 rfl _ _ _) rfl ?_
  refine EncR.of rfl (by rfl) (by have h := HO.out; exact h) hB0 HB6.out
set_option maxRecDepth 1000000 in
set_option maxHeartbeats 8000000 in
theorem Enc_nd (D : DP) (hD : DOk D) (w : World) :
    Calls Try.prog 27 #[.agg #[.int .i64 5, .int .i64 7, .string { data := #[] }, .int .i64 0, .int .i64 0, .int .i64 0, .slice none 0 0, .slice none 0 0, .int .i64 0, .int .i64 0]] w fun e w' => EncR w w' (nby D (.nd)) e := by
  have hF := hD.P.F
  have hfl := hD.len
  obtain ⟨i0, hi, hz0, hz1, hz2⟩ := info_parts Try.info5
  have bN := below_alloc w (.cells #[.int .i64 5, .int .i64 7, .string { data := #[] }, .int .i64 0, .int .i64 0, .int .i64 0, .slice none 0 0, .slice none 0 0, .int .i64 0, .int .i64 0] 60)
  have AN := hid (heap_alloc_new w (.cells #[.int .i64 5, .int .i64 7, .string { data := #[] }, .int .i64 0, .int .i64 0, .int .i64 0, .slice none 0 0, .slice none 0 0, .int .i64 0, .int .i64 0] 60))
  have hmy := hid (fun (W : World) (hW : Below w.heap.size w W) => may_nd W)
  have HB := hid bN
  clear bN
  go_enter Try.func27, Try.ntmps27
  refine wp_seq_k (fun K0 hK0 => ?_)
  go_wp2_with fail
  refine hK0.out _ _ ?_
  obtain ⟨N, hN⟩ : ∃ N, N = w.heap.size := ⟨_, rfl⟩
  rw [← hN] at AN ⊢
  clear hN
  generalize w.alloc (.cells #[.int .i64 5, .int .i64 7, .string { data := #[] }, .int .i64 0, .int .i64 0, .int .i64 0, .slice none 0 0, .slice none 0 0, .int .i64 0, .int .i64 0] 60) = V at *
  have hmy2 := hid (hmy.out V HB.out)
  clear hmy
  refine wp_seq_k (fun K1 hK1 => ?_)
  refine wp_seq_k (fun K2 hK2 => ?_)
  have AN0 := AN.out
  go_wp2_with (with_reducible refine wpList_load_row (o := ⟨some 7, _, _, _, _, _⟩) rfl 60 _ rfl N rfl 60 _ _ _ AN0 Try.underlying60 rfl (by kernel_rfl) ?_)
  refine hmy2.out.mono ?_
  rintro e V1 ⟨rfl, hb⟩
  have A1 := hid (row_below AN.out hb)
  have B1 := hid (HB.out.trans (hb.mono HB.out.size))
  clear hb hmy2 AN HB AN0
  go_wp2_with fail
  refine hK2.out _ _ ?_
  refine wp_cond_false rfl ?_
  go_wp2_with fail
  refine hK1.out _ _ ?_
  have n0 : V1.cell? ⟨N, 0, none⟩ = some (.int .i64 5) := by rw [cell_of_row _ _ _ _ _ _ A1.out]; rfl
  have n1 : V1.cell? ⟨N, 1, none⟩ = some (.int .i64 7) := by rw [cell_of_row _ _ _ _ _ _ A1.out]; rfl
  refine wp_seq_k (fun K3 hK3 => ?_)
  go_wp2_with fail
  refine hK3.out _ _ ?_
  clear n0 n1
  have b2 := below_alloc V1 (.cells #[.int .u8 5, .int .u8 0, .int .u8 7] 5)
  have o2 : (V1.alloc (.cells #[.int .u8 5, .int .u8 0, .int .u8 7] 5)).ownsRow V1.heap.size 5 1 (.slice (some ⟨V1.heap.size, 0, none⟩) 3 3) 3 (vb [5, 0, 7]) := World.ownsRow_lit (base := V1.heap.size) (e := 5) (size := 1) V1 #[.int .u8 5, .int .u8 0, .int .u8 7] 3 (Nat.le_refl _) (by unfold maxLen; omega) rfl
  have A2 := hid (row_below A1.out b2)
  have B2 := hid (B1.out.trans (b2.mono B1.out.size))
  have O2 := hid o2
  have hB0 : w.heap.size ≤ V1.heap.size := B1.out.size
  have hNB : N < V1.heap.size := row_lt A1.out
  obtain ⟨B0, hBe⟩ : ∃ B0, B0 = V1.heap.size := ⟨_, rfl⟩
  have hV2 : B0 < (V1.alloc (.cells #[.int .u8 5, .int .u8 0, .int .u8 7] 5)).heap.size := by rw [hBe]; exact row_lt (heap_alloc_new V1 _)
  rw [← hBe] at O2 hB0 hNB ⊢
  clear b2 o2 hBe A1 B1
  generalize V1.alloc (.cells #[.int .u8 5, .int .u8 0, .int .u8 7] 5) = V2 at *
  refine wp_seq_k (fun K4 hK4 => ?_)
  have n0 : V2.cell? ⟨N, 0, none⟩ = some (.int .i64 5) := by rw [cell_of_row _ _ _ _ _ _ A2.out]; rfl
  refine wp_seq_k (fun K5 hK5 => ?_)
  go_wp2_with fail
  refine hK5.out _ _ ?_
  clear n0
  refine wp_block ?_
  refine wp_seq_k (fun T1 hT1 => ?_)
  go_wp2_with fail
  refine hT1.out _ _ ?_
  refine wp_cond_false rfl ?_
  refine wp_seq_k (fun T2 hT2 => ?_)
  go_wp2_with fail
  refine hT2.out _ _ ?_
  refine wp_cond_false rfl ?_
  refine wp_seq_k (fun T3 hT3 => ?_)
  go_wp2_with fail
  refine hT3.out _ _ ?_
  refine wp_cond_false rfl ?_
  refine wp_seq_k (fun T4 hT4 => ?_)
  go_wp2_with fail
  refine hT4.out _ _ ?_
  refine wp_cond_false rfl ?_
  refine wp_seq_k (fun T5 hT5 => ?_)
  go_wp2_with fail
  refine hT5.out _ _ ?_
  refine wp_cond_true rfl ?_
  have n9 : V2.cell? ⟨N, 9, none⟩ = some (.int .i64 0) := by rw [cell_of_row _ _ _ _ _ _ A2.out]; rfl
  have bA := below_alloc V2 (.cells #[.int .u8 0] 5)
  have hnew : Hid (∀ (j : Nat) (u : Value), ([.int .u8 0] : List Value)[j]? = some u → (V2.alloc (.cells #[.int .u8 0] 5)).cell? ((⟨V2.heap.size, 0, none⟩ : Addr).add j) = some u) := new_cells V2 [.int .u8 0] 5
  have O4 := hid (ownsRow_below O2.out bA)
  have hV4 : B0 ≤ (V2.alloc (.cells #[.int .u8 0] 5)).heap.size := Nat.le_trans (Nat.le_of_lt hV2) bA.size
  have B4 := hid (B2.out.trans (bA.mono (by omega)))
  clear bA
  go_wp2_with (at_builtin; refine wpList_append_own_at _ rfl _ _ 22 rfl B0 5 i0 _ 1 1 Try.underlying22 hi hz0 hz1 hz2 rfl (by decide) (.slice (some ⟨B0, 0, none⟩) 3 3) 3 (vb [5, 0, 7]) rfl O4.out ⟨V2.heap.size, 0, none⟩ 1 1 [.int .u8 0] rfl rfl hnew.out (by simp [Value.oneCell']) (by unfold maxLen; omega) (by omega) hV4 ?_)
  intro v' U3 own4 g4 hnl hat
  obtain ⟨va, vc, rfl, _, _⟩ := own_slice own4
  have HB6 := hid (B4.out.grown g4 (Nat.le_trans hB0 hV4) (fun j e => Nat.le_trans hB0 (O4.out.lt j e).1))
  have HO := hid own4
  clear own4 g4 hnl hat O4 B4 hnew n9
  go_wp2_with fail
  refine hK4.out _ _ ?_
  go_wp2_with fail
  refine bodyPost_ret (results_tmp2 rfl _ _ _) rfl ?_
  refine EncR.of rfl (by rfl) (by have h := HO.out; exact h) hB0 HB6.out
set_option maxRecDepth 1000000 in
set_option maxHeartbeats 8000000 in
theorem Enc_se (D : DP) (hD : DOk D) (w : World) :
    Calls Try.prog 27 #[.agg #[.int .i64 6, .int .i64 7, .string { data := #[] }, .int .i64 0, .int .i64 0, .int .i64 0, .slice none 0 0, .slice none 0 0, .int .i64 3, .int .i64 0]] w fun e w' => EncR w w' (nby D (.se)) e := by
  have hF := hD.P.F
  have hfl := hD.len
  obtain ⟨i0, hi, hz0, hz1, hz2⟩ := info_parts Try.info5
  have bN := below_alloc w (.cells #[.int .i64 6, .int .i64 7, .string { data := #[] }, .int .i64 0, .int .i64 0, .int .i64 0, .slice none 0 0, .slice none 0 0, .int .i64 3, .int .i64 0] 60)
  have AN := hid (heap_alloc_new w (.cells #[.int .i64 6, .int .i64 7, .string { data := #[] }, .int .i64 0, .int .i64 0, .int .i64 0, .slice none 0 0, .slice none 0 0, .int .i64 3, .int .i64 0] 60))
  have hmy := hid (fun (W : World) (hW : Below w.heap.size w W) => may_sp W)
  have HB := hid bN
  clear bN
  go_enter Try.func27, Try.ntmps27
  refine wp_seq_k (fun K0 hK0 => ?_)
  go_wp2_with fail
  refine hK0.out _ _ ?_
  obtain ⟨N, hN⟩ : ∃ N, N = w.heap.size := ⟨_, rfl⟩
  rw [← hN] at AN ⊢
  clear hN
  generalize w.alloc (.cells #[.int .i64 6, .int .i64 7, .string { data := #[] }, .int .i64 0, .int .i64 0, .int .i64 0, .slice none 0 0, .slice none 0 0, .int .i64 3, .int .i64 0] 60) = V at *
  have hmy2 := hid (hmy.out V HB.out)
  clear hmy
  refine wp_seq_k (fun K1 hK1 => ?_)
  refine wp_seq_k (fun K2 hK2 => ?_)
  have AN0 := AN.out
  go_wp2_with (with_reducible refine wpList_load_row (o := ⟨some 7, _, _, _, _, _⟩) rfl 60 _ rfl N rfl 60 _ _ _ AN0 Try.underlying60 rfl (by kernel_rfl) ?_)
  refine hmy2.out.mono ?_
  rintro e V1 ⟨rfl, hb⟩
  have A1 := hid (row_below AN.out hb)
  have B1 := hid (HB.out.trans (hb.mono HB.out.size))
  clear hb hmy2 AN HB AN0
  go_wp2_with fail
  refine hK2.out _ _ ?_
  refine wp_cond_false rfl ?_
  go_wp2_with fail
  refine hK1.out _ _ ?_
  have n0 : V1.cell? ⟨N, 0, none⟩ = some (.int .i64 6) := by rw [cell_of_row _ _ _ _ _ _ A1.out]; rfl
  have n1 : V1.cell? ⟨N, 1, none⟩ = some (.int .i64 7) := by rw [cell_of_row _ _ _ _ _ _ A1.out]; rfl
  refine wp_seq_k (fun K3 hK3 => ?_)
  go_wp2_with fail
  refine hK3.out _ _ ?_
  clear n0 n1
  have b2 := below_alloc V1 (.cells #[.int .u8 6, .int .u8 0, .int .u8 7] 5)
  have o2 : (V1.alloc (.cells #[.int .u8 6, .int .u8 0, .int .u8 7] 5)).ownsRow V1.heap.size 5 1 (.slice (some ⟨V1.heap.size, 0, none⟩) 3 3) 3 (vb [6, 0, 7]) := World.ownsRow_lit (base := V1.heap.size) (e := 5) (size := 1) V1 #[.int .u8 6, .int .u8 0, .int .u8 7] 3 (Nat.le_refl _) (by unfold maxLen; omega) rfl
  have A2 := hid (row_below A1.out b2)
  have B2 := hid (B1.out.trans (b2.mono B1.out.size))
  have O2 := hid o2
  have hB0 : w.heap.size ≤ V1.heap.size := B1.out.size
  have hNB : N < V1.heap.size := row_lt A1.out
  obtain ⟨B0, hBe⟩ : ∃ B0, B0 = V1.heap.size := ⟨_, rfl⟩
  have hV2 : B0 < (V1.alloc (.cells #[.int .u8 6, .int .u8 0, .int .u8 7] 5)).heap.size := by rw [hBe]; exact row_lt (heap_alloc_new V1 _)
  rw [← hBe] at O2 hB0 hNB ⊢
  clear b2 o2 hBe A1 B1
  generalize V1.alloc (.cells #[.int .u8 6, .int .u8 0, .int .u8 7] 5) = V2 at *
  refine wp_seq_k (fun K4 hK4 => ?_)
  have n0 : V2.cell? ⟨N, 0, none⟩ = some (.int .i64 6) := by rw [cell_of_row _ _ _ _ _ _ A2.out]; rfl
  refine wp_seq_k (fun K5 hK5 => ?_)
  go_wp2_with fail
  refine hK5.out _ _ ?_
  clear n0
  refine wp_block ?_
  refine wp_seq_k (fun T1 hT1 => ?_)
  go_wp2_with fail
  refine hT1.out _ _ ?_
  refine wp_cond_false rfl ?_
  refine wp_seq_k (fun T2 hT2 => ?_)
  go_wp2_with fail
  refine hT2.out _ _ ?_
  refine wp_cond_false rfl ?_
  refine wp_seq_k (fun T3 hT3 => ?_)
  go_wp2_with fail
  refine hT3.out _ _ ?_
  refine wp_cond_false rfl ?_
  refine wp_seq_k (fun T4 hT4 => ?_)
  go_wp2_with fail
  refine hT4.out _ _ ?_
  refine wp_cond_false rfl ?_
  refine wp_seq_k (fun T5 hT5 => ?_)
  go_wp2_with fail
  refine hT5.out _ _ ?_
  refine wp_cond_false rfl ?_
  refine wp_seq_k (fun T6 hT6 => ?_)
  go_wp2_with fail
  refine hT6.out _ _ ?_
  refine wp_cond_true rfl ?_
  have n9 : V2.cell? ⟨N, 8, none⟩ = some (.int .i64 3) := by rw [cell_of_row _ _ _ _ _ _ A2.out]; rfl
  have bA := below_alloc V2 (.cells #[.int .u8 3] 5)
  have hnew : Hid (∀ (j : Nat) (u : Value), ([.int .u8 3] : List Value)[j]? = some u → (V2.alloc (.cells #[.int .u8 3] 5)).cell? ((⟨V2.heap.size, 0, none⟩ : Addr).add j) = some u) := new_cells V2 [.int .u8 3] 5
  have O4 := hid (ownsRow_below O2.out bA)
  have hV4 : B0 ≤ (V2.alloc (.cells #[.int .u8 3] 5)).heap.size := Nat.le_trans (Nat.le_of_lt hV2) bA.size
  have B4 := hid (B2.out.trans (bA.mono (by omega)))
  clear bA
  go_wp2_with (at_builtin; refine wpList_append_own_at _ rfl _ _ 22 rfl B0 5 i0 _ 1 1 Try.underlying22 hi hz0 hz1 hz2 rfl (by decide) (.slice (some ⟨B0, 0, none⟩) 3 3) 3 (vb [6, 0, 7]) rfl O4.out ⟨V2.heap.size, 0, none⟩ 1 1 [.int .u8 3] rfl rfl hnew.out (by simp [Value.oneCell']) (by unfold maxLen; omega) (by omega) hV4 ?_)
  intro v' U3 own4 g4 hnl hat
  obtain ⟨va, vc, rfl, _, _⟩ := own_slice own4
  have HB6 := hid (B4.out.grown g4 (Nat.le_trans hB0 hV4) (fun j e => Nat.le_trans hB0 (O4.out.lt j e).1))
  have HO := hid own4
  clear own4 g4 hnl hat O4 B4 hnew n9
  go_wp2_with fail
  refine hK4.out _ _ ?_
  go_wp2_with fail
  refine bodyPost_ret (results_tmp2 rfl _ _ _) rfl ?_
  refine EncR.of rfl (by rfl) (by have h := HO.out; exact h) hB0 HB6.out
set_option maxRecDepth 1000000 in
set_option maxHeartbeats 8000000 in
theorem Enc_sd (D : DP) (hD : DOk D) (w : World) :
    Calls Try.prog 27 #[.agg #[.int .i64 6, .int .i64 7, .string { data := #[] }, .int .i64 0, .int .i64 0, .int .i64 0, .slice none 0 0, .slice none 0 0, .int .i64 5, .int .i64 0]] w fun e w' => EncR w w' (nby D (.sd)) e := by
  have hF := hD.P.F
  have hfl := hD.len
  obtain ⟨i0, hi, hz0, hz1, hz2⟩ := info_parts Try.info5
  have bN := below_alloc w (.cells #[.int .i64 6, .int .i64 7, .string { data := #[] }, .int .i64 0, .int .i64 0, .int .i64 0, .slice none 0 0, .slice none 0 0, .int .i64 5, .int .i64 0] 60)
  have AN := hid (heap_alloc_new w (.cells #[.int .i64 6, .int .i64 7, .string { data := #[] }, .int .i64 0, .int .i64 0, .int .i64 0, .slice none 0 0, .slice none 0 0, .int .i64 5, .int .i64 0] 60))
  have hmy := hid (fun (W : World) (hW : Below w.heap.size w W) => may_sd W)
  have HB := hid bN
  clear bN
  go_enter Try.func27, Try.ntmps27
  refine wp_seq_k (fun K0 hK0 => ?_)
  go_wp2_with fail
  refine hK0.out _ _ ?_
  obtain ⟨N, hN⟩ : ∃ N, N = w.heap.size := ⟨_, rfl⟩
  rw [← hN] at AN ⊢
  clear hN
  generalize w.alloc (.cells #[.int .i64 6, .int .i64 7, .string { data := #[] }, .int .i64 0, .int .i64 0, .int .i64 0, .slice none 0 0, .slice none 0 0, .int .i64 5, .int .i64 0] 60) = V at *
  have hmy2 := hid (hmy.out V HB.out)
  clear hmy
  refine wp_seq_k (fun K1 hK1 => ?_)
  refine wp_seq_k (fun K2 hK2 => ?_)
  have AN0 := AN.out
  go_wp2_with (with_reducible refine wpList_load_row (o := ⟨some 7, _, _, _, _, _⟩) rfl 60 _ rfl N rfl 60 _ _ _ AN0 Try.underlying60 rfl (by kernel_rfl) ?_)
  refine hmy2.out.mono ?_
  rintro e V1 ⟨rfl, hb⟩
  have A1 := hid (row_below AN.out hb)
  have B1 := hid (HB.out.trans (hb.mono HB.out.size))
  clear hb hmy2 AN HB AN0
  go_wp2_with fail
  refine hK2.out _ _ ?_
  refine wp_cond_false rfl ?_
  go_wp2_with fail
  refine hK1.out _ _ ?_
  have n0 : V1.cell? ⟨N, 0, none⟩ = some (.int .i64 6) := by rw [cell_of_row _ _ _ _ _ _ A1.out]; rfl
  have n1 : V1.cell? ⟨N, 1, none⟩ = some (.int .i64 7) := by rw [cell_of_row _ _ _ _ _ _ A1.out]; rfl
  refine wp_seq_k (fun K3 hK3 => ?_)
  go_wp2_with fail
  refine hK3.out _ _ ?_
  clear n0 n1
  have b2 := below_alloc V1 (.cells #[.int .u8 6, .int .u8 0, .int .u8 7] 5)
  have o2 : (V1.alloc (.cells #[.int .u8 6, .int .u8 0, .int .u8 7] 5)).ownsRow V1.heap.size 5 1 (.slice (some ⟨V1.heap.size, 0, none⟩) 3 3) 3 (vb [6, 0, 7]) := World.ownsRow_lit (base := V1.heap.size) (e := 5) (size := 1) V1 #[.int .u8 6, .int .u8 0, .int .u8 7] 3 (Nat.le_refl _) (by unfold maxLen; omega) rfl
  have A2 := hid (row_below A1.out b2)
  have B2 := hid (B1.out.trans (b2.mono B1.out.size))
  have O2 := hid o2
  have hB0 : w.heap.size ≤ V1.heap.size := B1.out.size
  have hNB : N < V1.heap.size := row_lt A1.out
  obtain ⟨B0, hBe⟩ : ∃ B0, B0 = V1.heap.size := ⟨_, rfl⟩
  have hV2 : B0 < (V1.alloc (.cells #[.int .u8 6, .int .u8 0, .int .u8 7] 5)).heap.size := by rw [hBe]; exact row_lt (heap_alloc_new V1 _)
  rw [← hBe] at O2 hB0 hNB ⊢
  clear b2 o2 hBe A1 B1
  generalize V1.alloc (.cells #[.int .u8 6, .int .u8 0, .int .u8 7] 5) = V2 at *
  refine wp_seq_k (fun K4 hK4 => ?_)
  have n0 : V2.cell? ⟨N, 0, none⟩ = some (.int .i64 6) := by rw [cell_of_row _ _ _ _ _ _ A2.out]; rfl
  refine wp_seq_k (fun K5 hK5 => ?_)
  go_wp2_with fail
  refine hK5.out _ _ ?_
  clear n0
  refine wp_block ?_
  refine wp_seq_k (fun T1 hT1 => ?_)
  go_wp2_with fail
  refine hT1.out _ _ ?_
  refine wp_cond_false rfl ?_
  refine wp_seq_k (fun T2 hT2 => ?_)
  go_wp2_with fail
  refine hT2.out _ _ ?_
  refine wp_cond_false rfl ?_
  refine wp_seq_k (fun T3 hT3 => ?_)
  go_wp2_with fail
  refine hT3.out _ _ ?_
  refine wp_cond_false rfl ?_
  refine wp_seq_k (fun T4 hT4 => ?_)
  go_wp2_with fail
  refine hT4.out _ _ ?_
  refine wp_cond_false rfl ?_
  refine wp_seq_k (fun T5 hT5 => ?_)
  go_wp2_with fail
  refine hT5.out _ _ ?_
  refine wp_cond_false rfl ?_
  refine wp_seq_k (fun T6 hT6 => ?_)
  go_wp2_with fail
  refine hT6.out _ _ ?_
  refine wp_cond_true rfl ?_
  have n9 : V2.cell? ⟨N, 8, none⟩ = some (.int .i64 5) := by rw [cell_of_row _ _ _ _ _ _ A2.out]; rfl
  have bA := below_alloc V2 (.cells #[.int .u8 5] 5)
  have hnew : Hid (∀ (j : Nat) (u : Value), ([.int .u8 5] : List Value)[j]? = some u → (V2.alloc (.cells #[.int .u8 5] 5)).cell? ((⟨V2.heap.size, 0, none⟩ : Addr).add j) = some u) := new_cells V2 [.int .u8 5] 5
  have O4 := hid (ownsRow_below O2.out bA)
  have hV4 : B0 ≤ (V2.alloc (.cells #[.int .u8 5] 5)).heap.size := Nat.le_trans (Nat.le_of_lt hV2) bA.size
  have B4 := hid (B2.out.trans (bA.mono (by omega)))
  clear bA
  go_wp2_with (at_builtin; refine wpList_append_own_at _ rfl _ _ 22 rfl B0 5 i0 _ 1 1 Try.underlying22 hi hz0 hz1 hz2 rfl (by decide) (.slice (some ⟨B0, 0, none⟩) 3 3) 3 (vb [6, 0, 7]) rfl O4.out ⟨V2.heap.size, 0, none⟩ 1 1 [.int .u8 5] rfl rfl hnew.out (by simp [Value.oneCell']) (by unfold maxLen; omega) (by omega) hV4 ?_)
  intro v' U3 own4 g4 hnl hat
  obtain ⟨va, vc, rfl, _, _⟩ := own_slice own4
  have HB6 := hid (B4.out.grown g4 (Nat.le_trans hB0 hV4) (fun j e => Nat.le_trans hB0 (O4.out.lt j e).1))
  have HO := hid own4
  clear own4 g4 hnl hat O4 B4 hnew n9
  go_wp2_with fail
  refine hK4.out _ _ ?_
  go_wp2_with fail
  refine bodyPost_ret (results_tmp2 rfl _ _ _) rfl ?_
  refine EncR.of rfl (by rfl) (by have h := HO.out; exact h) hB0 HB6.out
end Go.Proofs.Ytopmamgdfngdoaa
/- deliver: Encode of gaps (began as a print of genenc.py). -/
namespace Go.Proofs.Ytopmamgdfngdoaa
set_option linter.unusedVariables false
open Go.RowKit

set_option maxRecDepth 1000000 in
theorem fr82 (y : Nat → Value) : fr 82 y = #[y 0, y 1, y 2, y 3, y 4, y 5, y 6, y 7, y 8, y 9, y 10, y 11, y 12, y 13, y 14, y 15, y 16, y 17, y 18, y 19, y 20, y 21, y 22, y 23, y 24, y 25, y 26, y 27, y 28, y 29, y 30, y 31, y 32, y 33, y 34, y 35, y 36, y 37, y 38, y 39, y 40, y 41, y 42, y 43, y 44, y 45, y 46, y 47, y 48, y 49, y 50, y 51, y 52, y 53, y 54, y 55, y 56, y 57, y 58, y 59, y 60, y 61, y 62, y 63, y 64, y 65, y 66, y 67, y 68, y 69, y 70, y 71, y 72, y 73, y 74, y 75, y 76, y 77, y 78, y 79, y 80, y 81] := rfl
def sby (s : Sp) : List Nat := be4 s.1 ++ be4 s.2
theorem sby_len : ∀ l : List Sp, (l.flatMap sby).length = l.length * 8
  | [] => rfl
  | x :: r => by
    rw [List.flatMap_cons, List.length_append, sby_len r, List.length_cons]
    show 8 + _ = _
    omega
def encI (w : World) (B0 n c : Nat) (ga : Option Addr) (l : List Sp) (y : Nat → Value) (W : World) : Prop :=
  ∃ k oa m oc, k ≤ n ∧ m = 3 + k * 8 ∧ y 4 = .slice oa m oc ∧ y 55 = .slice ga n c ∧ y 56 = .int .i64 (n : Int) ∧ y 57 = .int .i64 (k : Int) ∧ W.ownsRow B0 5 1 (.slice oa m oc) m (vb ([4, 0, 7] ++ (l.take k).flatMap sby)) ∧ B0 ≤ W.heap.size ∧ Below w.heap.size w W
set_option maxRecDepth 1000000 in
set_option maxHeartbeats 8000000 in
theorem Enc_ng (D : DP) (hD : DOk D) (ga : Option Addr) (gn gc : Nat) (l : List Sp) (w : World) (hgn : gn = l.length) (hn1 : 1 ≤ l.length ∧ l.length ≤ 20) (h0 : RdS w ga gn gc l) (hl : ∀ s ∈ l, vSp D.P.F s) :
    Calls Try.prog 27 #[.agg #[.int .i64 4, .int .i64 7, .string { data := #[] }, .int .i64 0, .int .i64 0, .int .i64 0, .slice none 0 0, .slice ga gn gc, .int .i64 0, .int .i64 0]] w fun e w' => EncR w w' (nby D (.ng l)) e := by
  have hF := hD.P.F
  have hfl := hD.len
  obtain ⟨i0, hi, hz0, hz1, hz2⟩ := info_parts Try.info5
  have bN := below_alloc w (.cells #[.int .i64 4, .int .i64 7, .string { data := #[] }, .int .i64 0, .int .i64 0, .int .i64 0, .slice none 0 0, .slice ga gn gc, .int .i64 0, .int .i64 0] 60)
  have AN := hid (heap_alloc_new w (.cells #[.int .i64 4, .int .i64 7, .string { data := #[] }, .int .i64 0, .int .i64 0, .int .i64 0, .slice none 0 0, .slice ga gn gc, .int .i64 0, .int .i64 0] 60))
  have hmy := hid (fun (W : World) (hW : Below w.heap.size w W) => may_ng ga gn gc l W (by omega) (h0.below hW) (fun s hs => vSp_mono (hl s hs) (by omega)))
  have HB := hid bN
  have HL := hid hl
  have H0 := hid h0
  have Hgn := hid hgn
  have hgn0 : 1 ≤ gn ∧ gn ≤ 20 := by omega
  clear hl h0 hgn
  clear bN
  go_enter Try.func27, Try.ntmps27
  refine wp_seq_k (fun K0 hK0 => ?_)
  go_wp2_with fail
  refine hK0.out _ _ ?_
  obtain ⟨N, hN⟩ : ∃ N, N = w.heap.size := ⟨_, rfl⟩
  rw [← hN] at AN ⊢
  clear hN
  generalize w.alloc (.cells #[.int .i64 4, .int .i64 7, .string { data := #[] }, .int .i64 0, .int .i64 0, .int .i64 0, .slice none 0 0, .slice ga gn gc, .int .i64 0, .int .i64 0] 60) = V at *
  have hmy2 := hid (hmy.out V HB.out)
  clear hmy
  refine wp_seq_k (fun K1 hK1 => ?_)
  refine wp_seq_k (fun K2 hK2 => ?_)
  have AN0 := AN.out
  go_wp2_with (with_reducible refine wpList_load_row (o := ⟨some 7, _, _, _, _, _⟩) rfl 60 _ rfl N rfl 60 _ _ _ AN0 Try.underlying60 rfl (by kernel_rfl) ?_)
  refine hmy2.out.mono ?_
  rintro e V1 ⟨rfl, hb⟩
  have A1 := hid (row_below AN.out hb)
  have B1 := hid (HB.out.trans (hb.mono HB.out.size))
  clear hb hmy2 AN HB AN0
  go_wp2_with fail
  refine hK2.out _ _ ?_
  refine wp_cond_false rfl ?_
  go_wp2_with fail
  refine hK1.out _ _ ?_
  have n0 : V1.cell? ⟨N, 0, none⟩ = some (.int .i64 4) := by rw [cell_of_row _ _ _ _ _ _ A1.out]; rfl
  have n1 : V1.cell? ⟨N, 1, none⟩ = some (.int .i64 7) := by rw [cell_of_row _ _ _ _ _ _ A1.out]; rfl
  refine wp_seq_k (fun K3 hK3 => ?_)
  go_wp2_with fail
  refine hK3.out _ _ ?_
  clear n0 n1
  have b2 := below_alloc V1 (.cells #[.int .u8 4, .int .u8 0, .int .u8 7] 5)
  have o2 : (V1.alloc (.cells #[.int .u8 4, .int .u8 0, .int .u8 7] 5)).ownsRow V1.heap.size 5 1 (.slice (some ⟨V1.heap.size, 0, none⟩) 3 3) 3 (vb [4, 0, 7]) := World.ownsRow_lit (base := V1.heap.size) (e := 5) (size := 1) V1 #[.int .u8 4, .int .u8 0, .int .u8 7] 3 (Nat.le_refl _) (by unfold maxLen; omega) rfl
  have A2 := hid (row_below A1.out b2)
  have B2 := hid (B1.out.trans (b2.mono B1.out.size))
  have O2 := hid o2
  have hB0 : w.heap.size ≤ V1.heap.size := B1.out.size
  have hNB : N < V1.heap.size := row_lt A1.out
  obtain ⟨B0, hBe⟩ : ∃ B0, B0 = V1.heap.size := ⟨_, rfl⟩
  have hV2 : B0 < (V1.alloc (.cells #[.int .u8 4, .int .u8 0, .int .u8 7] 5)).heap.size := by rw [hBe]; exact row_lt (heap_alloc_new V1 _)
  rw [← hBe] at O2 hB0 hNB ⊢
  clear b2 o2 hBe A1 B1
  generalize V1.alloc (.cells #[.int .u8 4, .int .u8 0, .int .u8 7] 5) = V2 at *
  refine wp_seq_k (fun K4 hK4 => ?_)
  have n0 : V2.cell? ⟨N, 0, none⟩ = some (.int .i64 4) := by rw [cell_of_row _ _ _ _ _ _ A2.out]; rfl
  refine wp_seq_k (fun K5 hK5 => ?_)
  go_wp2_with fail
  refine hK5.out _ _ ?_
  clear n0
  refine wp_block ?_
  refine wp_seq_k (fun T1 hT1 => ?_)
  go_wp2_with fail
  refine hT1.out _ _ ?_
  refine wp_cond_false rfl ?_
  refine wp_seq_k (fun T2 hT2 => ?_)
  go_wp2_with fail
  refine hT2.out _ _ ?_
  refine wp_cond_false rfl ?_
  refine wp_seq_k (fun T3 hT3 => ?_)
  go_wp2_with fail
  refine hT3.out _ _ ?_
  refine wp_cond_false rfl ?_
  refine wp_seq_k (fun T4 hT4 => ?_)
  go_wp2_with fail
  refine hT4.out _ _ ?_
  refine wp_cond_true rfl ?_
  have n7 : V2.cell? ⟨N, 7, none⟩ = some (.slice ga gn gc) := by rw [cell_of_row _ _ _ _ _ _ A2.out]; rfl
  refine wp_seq_k (fun K6 hK6 => ?_)
  go_wp2_with fail
  refine hK6.out _ _ ?_
  clear n7
  refine wp_block ?_
  refine wp_loop_fr 82 (encI w B0 gn gc ga l) (fun y' _ => gn - (intOf (y' 57)).toNat) ⟨rfl, rfl, 0, some ⟨B0, 0, none⟩, 3, 3, Nat.zero_le _, rfl, rfl, rfl, rfl, rfl, ?_, by omega, B2.out⟩ ?_
  · rw [List.take_zero]
    exact O2.out
  clear O2 A2 B2 hV2
  rintro z W ⟨k, oa, m, oc, hk, hm, s4, s55, s56, s57, ho, hBW, hbw⟩
  have HO := hid ho
  have HB2 := hid hbw
  have Hm := hid hm
  have hm2 : m ≤ 200 := by omega
  clear ho hbw hm
  rw [fr82]
  simp only [s4, s55, s56, s57]
  clear s4 s55 s56 s57
  by_cases hlt : k < gn
  · have d1 : decide ((k : Int) < (gn : Int)) = true := decide_eq_true (by omega)
    have hkI : (k : Int) < (gn : Int) := by omega
    have hk0' : (0 : Int) ≤ (k : Int) := by omega
    have hkt : ((k : Nat) : Int).toNat = k := rfl
    obtain ⟨b, off, s, hbb, hb, hs, c0, c1⟩ := (H0.out.below HB2.out).at_ k hlt
    subst hbb
    have hvs := HL.out s (List.mem_of_getElem? hs)
    have hsb : s.1 ≤ 120 ∧ s.2 ≤ 120 := by
      rcases hvs with h | ⟨h1, h2⟩
      · rw [h]; exact ⟨by decide, by decide⟩
      · omega
    have hT : Hid ((l.take (k + 1)).flatMap sby = (l.take k).flatMap sby ++ sby s) := by
      unfold Hid
      rw [List.take_add_one, hs, Option.toList_some, List.flatMap_append]
      simp
    clear hs hb hvs
    obtain ⟨sx, sy⟩ := s
    dsimp only at c0 c1 hsb
    go_upto_block 2 with (fail)
    refine wp_block ?_
    refine wp_seq_k (fun K7 hK7 => ?_)
    go_wp2_with fail
    refine hK7.out _ _ ?_
    have bW := below_alloc W (.cells #[.int .i64 (sx : Int), .int .i64 (sy : Int)] 84)
    have AP := heap_alloc_new W (.cells #[.int .i64 (sx : Int), .int .i64 (sy : Int)] 84)
    have O3 := hid (ownsRow_below HO.out bW)
    have B3 := hid (HB2.out.trans (bW.mono HB2.out.size))
    have hne : (Value.slice oa m oc).ownBlock ≠ some W.heap.size := fun e => by have := (HO.out.lt _ e).2; omega
    have hV3 : B0 ≤ (W.alloc (.cells #[.int .i64 (sx : Int), .int .i64 (sy : Int)] 84)).heap.size := Nat.le_trans hBW bW.size
    have hput := hid (put_ok B0 W.heap.size 0 2 2 m 84 oa oc ([4, 0, 7] ++ (l.take k).flatMap sby) [sx, sy] #[.int .i64 (sx : Int), .int .i64 (sy : Int)] (W.alloc (.cells #[.int .i64 (sx : Int), .int .i64 (sy : Int)] 84)) O3.out AP rfl (fun j hj => by rcases (show j = 0 ∨ j = 1 by omega) with rfl | rfl <;> rfl) hne hV3 (fun z hz => by simp only [List.mem_cons, List.not_mem_nil, or_false] at hz; rcases hz with rfl | rfl <;> omega) (by omega) (by omega))
    clear bW AP hne HO c0 c1 O3
    generalize W.alloc (.cells #[.int .i64 (sx : Int), .int .i64 (sy : Int)] 84) = V at *
    generalize W.heap.size = P at *
    go_wp2_with fail
    refine hput.out.mono ?_
    rintro e V3 ⟨⟨oa', oc', rfl, ho⟩, hb⟩
    rw [List.append_assoc, show [sx, sy].flatMap be4 = sby (sx, sy) from rfl, ← hT.out] at ho
    have HO := hid ho
    have B4 := hid (B3.out.trans (hb.mono hB0))
    have hV4 : B0 ≤ V3.heap.size := Nat.le_trans hV3 hb.size
    clear ho hb hput B3 hT
    go_wp2_with fail
    refine ⟨rfl, rfl, ⟨k + 1, oa', m + 2 * 4, oc', by omega, by have := Hm.out; omega, rfl, rfl, rfl, ?_, HO.out, hV4, B4.out⟩, ?_⟩
    · show Value.int .i64 _ = Value.int .i64 _
      go_num
    · show gn - (intOf (Value.int .i64 _)).toNat < _
      simp [intOf]
      omega
  · obtain rfl : k = gn := by omega
    have d1 : decide ((k : Int) < (k : Int)) = false := decide_eq_false (by omega)
    have ht : l.take k = l := List.take_of_length_le (by rw [Hgn.out]; exact Nat.le_refl _)
    rw [ht] at HO
    clear ht
    go_wp2_with fail
    refine hK4.out _ _ ?_
    go_wp2_with fail
    refine bodyPost_ret (results_tmp2 rfl _ _ _) rfl ?_
    refine EncR.of rfl ?_ HO.out hB0 HB2.out
    show m = ([4, 0, 7] ++ l.flatMap sby).length
    rw [List.length_append, sby_len, Hm.out, Hgn.out]
    rfl
end Go.Proofs.Ytopmamgdfngdoaa
