/- append, at one operation: where the new slice lies. -/
import Derived.Test.YtjiipmalahhcpaaCarries5
import Derived.Maps.AppendAt
import Derived.Deep.DeepAppendWide
import Derived.Test.YtjiipmalahhcpaaCarries8
namespace Go.Proofs.Ytjiipmalahhcpaa
set_option linter.unusedVariables false
open Go.RowKit

theorem wp_append_own_at {P : Program} {w : World} {o : Oper} {a : Act} {K : Act → World → Prop} {Q : Exit → Act → World → Prop} (s x : Operand) (t : TypeId)
    (ho : o.op = .call { callee := .builtin .append, args := #[s, x], argTypes := #[t, t] })
    (base : Nat) (e : TypeId) (i : TypeInfo) (z : Value) (size bytes : Nat) (ht : P.underlying t = some (.slice e)) (hi : P.info? e = some i) (hz : i.zero = some z)
    (hsize : i.size = size) (hby : i.bytes = bytes) (hzs : z.cells.size = size) (hsz : 0 < size)
    (v : Value) (n : Nat) (xs : List Value) (hs : a.eval s = v) (hown : w.ownsRow base e size v n xs)
    (ad : Addr) (m c : Nat) (news : List Value) (hx : a.eval x = .slice (some ad) m c) (hl : news.length = m * size) (hnews : ∀ j u, news[j]? = some u → w.cell? (ad.add j) = some u) (h1 : ∀ u ∈ news, u.oneCell' = true)
    (h63 : n + m ≤ maxLen) (hbytes : (n + m) * bytes ≤ 140737488355328) (hbase : base ≤ w.heap.size)
    (h : ∀ v' w', w'.ownsRow base e size v' (n + m) (xs ++ news) → w.grownBy w' v.ownBlock → (v'.ownBlock = v.ownBlock ∨ v'.ownBlock = some w.heap.size) → K (a.put o.dst v') w') : o.wp P a w K Q := by
  obtain ⟨v', w', hr, h2, h3, _, h5⟩ := run_append_own_at (P := P) w base t o.type e i z size bytes ht hi hz hsize hby hzs hsz v n xs hown ad m c news hl hnews h1 h63 hbytes hbase
  unfold Oper.wp execOp
  simp only [ho, resolve, invoke, builtin, Sem.run_bind, Sem.run_pure, Result.andThen_ok, List.map_toArray, List.map_cons, List.map_nil, hs, hx, hr]
  exact h v' w' h2 h3 h5
end Go.Proofs.Ytjiipmalahhcpaa
/- append with the wider bound: where the new slice lies. -/
namespace Go.Proofs.Ytjiipmalahhcpaa
set_option linter.unusedVariables false
open Go.RowKit

theorem own_where {P : Program} {w : World} {base : Nat} {t ty e : TypeId} {i : TypeInfo} {z : Value} (ht : P.underlying t = some (.slice e)) (hi : P.info? e = some i) (hz : i.zero = some z)
    {v : Value} {n : Nat} {xs : List Value} (hown : w.ownsRow base e i.size v n xs) {a : Addr} {m c : Nat} {news : List Value} (hl : news.length = m * i.size) (hnews : ∀ j u, news[j]? = some u → w.cell? (a.add j) = some u) (h1 : ∀ u ∈ news, u.oneCell' = true)
    (h63 : n + m ≤ maxLen) (hbytes : ((n + m) + (n + m) / 4 + 192) * i.bytes ≤ 281474976710656) {v' : Value} {w' : World} (hr : (Builtin.append_ #[t, t] ty #[v, .slice (some a) m c]).run P w = .ok v' w') :
    v'.ownBlock = v.ownBlock ∨ v'.ownBlock = some w.heap.size := by
  have hs : n + m ≤ 9223372036854775807 := by simp only [maxLen] at h63; omega
  rcases hown.2 with ⟨rfl, rfl⟩ | ⟨g, cap, cur, rfl, _, hg, hn, _, hc, _⟩
  · rcases Nat.eq_zero_or_pos m with h0 | h0
    · subst h0
      obtain rfl : news = [] := List.eq_nil_of_length_eq_zero (by simpa using hl)
      have h2 : (Builtin.append_ #[t, t] ty #[.slice none 0 0, .slice (some a) 0 c]).run P w = .ok (.slice none 0 0) w := by
        simp [Builtin.append_, run_underlying ht, sizeOf, typeInfo, hi, Builtin.lenOf, Builtin.firstCells, loadCells, loadCellsFrom]
      rw [h2] at hr
      cases hr
      exact .inl rfl
    · have h2 := run_append_nil (P := P) w t ty e i z ht hi hz a m c news hl hnews h0 (by omega) (Nat.le_trans (Nat.mul_le_mul_right _ (by omega)) hbytes)
      rw [h2] at hr
      cases hr
      exact .inr rfl
  · by_cases hroom : n + m ≤ cap
    · have h2 := run_append_room (P := P) w t ty e i ht hi g n cap cur hg a m c news hl hnews h1 hroom (by rw [hl, hc, ← Nat.add_mul]; exact Nat.mul_le_mul_right _ hroom)
      rw [h2] at hr
      cases hr
      exact .inl rfl
    · have h2 := run_append_grow (P := P) w t ty e i z ht hi hz ⟨g, 0, none⟩ n cap xs hown.1 (hown.cells (g := g) rfl) a m c news hl hnews (by omega) (by omega) (growslice_fits_wide (by omega) hbytes)
      rw [h2] at hr
      cases hr
      exact .inr rfl
theorem wp_append_wide_at {P : Program} {w : World} {o : Oper} {a : Act} {K : Act → World → Prop} {Q : Exit → Act → World → Prop} (s x : Operand) (t : TypeId)
    (ho : o.op = .call { callee := .builtin .append, args := #[s, x], argTypes := #[t, t] })
    (base : Nat) (e : TypeId) (i : TypeInfo) (z : Value) (size bytes : Nat) (ht : P.underlying t = some (.slice e)) (hi : P.info? e = some i) (hz : i.zero = some z)
    (hsize : i.size = size) (hby : i.bytes = bytes) (hzs : z.cells.size = size) (hsz : 0 < size)
    (v : Value) (n : Nat) (xs : List Value) (hs : a.eval s = v) (hown : w.ownsRow base e size v n xs)
    (ad : Addr) (m c : Nat) (news : List Value) (hx : a.eval x = .slice (some ad) m c) (hl : news.length = m * size) (hnews : ∀ j u, news[j]? = some u → w.cell? (ad.add j) = some u) (h1 : ∀ u ∈ news, u.oneCell' = true)
    (h63 : n + m ≤ maxLen) (hbytes : ((n + m) + (n + m) / 4 + 192) * bytes ≤ 281474976710656) (hbase : base ≤ w.heap.size)
    (h : ∀ v' w', w'.ownsRow base e size v' (n + m) (xs ++ news) → w.grownBy w' v.ownBlock → (v'.ownBlock = v.ownBlock ∨ v'.ownBlock = some w.heap.size) → K (a.put o.dst v') w') : o.wp P a w K Q := by
  obtain ⟨v', w', hr, h2, h3, _⟩ := run_append_own_wide (P := P) w base t o.type e i z size bytes ht hi hz hsize hby hzs hsz v n xs hown ad m c news hl hnews h1 h63 hbytes hbase
  have h5 : v'.ownBlock = v.ownBlock ∨ v'.ownBlock = some w.heap.size := by
    subst hsize
    subst hby
    exact own_where ht hi hz hown hl hnews h1 h63 hbytes hr
  unfold Oper.wp execOp
  simp only [ho, resolve, invoke, builtin, Sem.run_bind, Sem.run_pure, Result.andThen_ok, List.map_toArray, List.map_cons, List.map_nil, hs, hx, hr]
  exact h v' w' h2 h3 h5
theorem wpList_append_wide_at {P : Program} {w : World} {ops : Array Oper} {rest : List Oper} {o : Oper} {a : Act} {Q : Exit → Act → World → Prop} (hgd : o.guard = none) (s x : Operand) (t : TypeId)
    (ho : o.op = .call { callee := .builtin .append, args := #[s, x], argTypes := #[t, t] })
    (base : Nat) (e : TypeId) (i : TypeInfo) (z : Value) (size bytes : Nat) (ht : P.underlying t = some (.slice e)) (hi : P.info? e = some i) (hz : i.zero = some z)
    (hsize : i.size = size) (hby : i.bytes = bytes) (hzs : z.cells.size = size) (hsz : 0 < size)
    (v : Value) (n : Nat) (xs : List Value) (hs : a.eval s = v) (hown : w.ownsRow base e size v n xs)
    (ad : Addr) (m c : Nat) (news : List Value) (hx : a.eval x = .slice (some ad) m c) (hl : news.length = m * size) (hnews : ∀ j u, news[j]? = some u → w.cell? (ad.add j) = some u) (h1 : ∀ u ∈ news, u.oneCell' = true)
    (h63 : n + m ≤ maxLen) (hbytes : ((n + m) + (n + m) / 4 + 192) * bytes ≤ 281474976710656) (hbase : base ≤ w.heap.size)
    (h : ∀ v' w', w'.ownsRow base e size v' (n + m) (xs ++ news) → w.grownBy w' v.ownBlock → (v'.ownBlock = v.ownBlock ∨ v'.ownBlock = some w.heap.size) → wpList P ops Q rest (a.put o.dst v') w') : wpList P ops Q (o :: rest) a w :=
  wpList_plain hgd fun _ hK => wp_append_wide_at s x t ho base e i z size bytes ht hi hz hsize hby hzs hsz v n xs hs hown ad m c news hx hl hnews h1 h63 hbytes hbase fun v' w' h2 h3 h4 => hK _ _ (h v' w' h2 h3 h4)
end Go.Proofs.Ytjiipmalahhcpaa
/- frame: Put. -/
namespace Go.Proofs.Ytjiipmalahhcpaa
set_option linter.unusedVariables false
open Go.RowKit

def putL (l : Nat → LQ) (c : Nat) (bs : List Nat) : Nat → LQ := fun x => if x = c then ⟨(l c).own, (l c).gone, (l c).ps ++ [bs]⟩ else l x
structure PutR (W0 W : World) (craft size master turn : Nat) (l : Nat → LQ) (c : Nat) (bs : List Nat) (e : Ending) : Prop where
  ex : ∃ qb qc, e = .returned (.tuple #[sv craft size master turn qb qc, .int .i64 0]) ∧ SndL W qb qc (putL l c bs)
  blw : Below W0.heap.size W0 W
/-- what the append leaves -/
structure PuM (W : World) (B qb c : Nat) (q q2 : Nat → QS) (l : Nat → LQ) (bs : List Nat) : Prop where
  qr : QB7 W qb q
  oq : ∀ x, x < 7 → x ≠ c → PkT W (q x).pa (q x).pn (q x).pc (q x).R
  nw : PkT W (q2 c).pa (q2 c).pn (q2 c).pc (q2 c).R
  same : ∀ x, x ≠ c → q2 x = q x
  own : (q2 c).own = (q c).own ∧ (q2 c).gone = (q c).gone
  abs : ∀ x, x < 7 → (q x).abs = l x
  cs : conts (q2 c).R = (l c).ps ++ [bs]
theorem PuM.store {W : World} {B qb c : Nat} {q q2 : Nat → QS} {l : Nat → LQ} {bs : List Nat} (h : PuM W B qb c q q2 l bs) (hc : c < 7) :
    (QB7 (W.setCell ⟨qb, c * 3 + 1, none⟩ (.slice (q2 c).pa (q2 c).pn (q2 c).pc)) qb q2 ∧ (∀ x, x < 7 → PkT (W.setCell ⟨qb, c * 3 + 1, none⟩ (.slice (q2 c).pa (q2 c).pn (q2 c).pc)) (q2 x).pa (q2 x).pn (q2 x).pc (q2 x).R) ∧ ∀ x, x < 7 → (q2 x).abs = putL l c bs x) ∧
      W.grownBy (W.setCell ⟨qb, c * 3 + 1, none⟩ (.slice (q2 c).pa (q2 c).pn (q2 c).pc)) (some qb) := by
  obtain ⟨h1, h2⟩ := h.qr.set c 1 hc (by omega) q2 (.slice (q2 c).pa (q2 c).pn (q2 c).pc) (by
    unfold qcell
    rw [if_neg (by omega), if_pos (by omega), show (c * 3 + 1) / 3 = c by omega]) (fun j hj hne => by
    unfold qcell
    by_cases e : j / 3 = c
    · rw [e]
      by_cases e3 : j % 3 = 0
      · rw [if_pos e3, if_pos e3, h.own.1]
      · rw [if_neg e3, if_neg e3, if_neg (by omega), if_neg (by omega), h.own.2]
    · rw [h.same _ e])
  obtain ⟨cq, hqr, _⟩ := h.qr.ex
  refine ⟨⟨h1, fun x hx => ?_, fun x hx => ?_⟩, h2⟩
  · by_cases e : x = c
    · subst e; exact h.nw.other h2 hqr (by decide) (by decide)
    · rw [h.same x e]; exact (h.oq x hx e).other h2 hqr (by decide) (by decide)
  · unfold putL
    by_cases e : x = c
    · subst e
      rw [if_pos rfl]
      have h3 := h.abs x hx
      unfold QS.abs
      rw [h.own.1, h.own.2, h.cs, ← h3]
      rfl
    · rw [if_neg e, h.same x e]; exact h.abs x hx
theorem putL_ok {l : Nat → LQ} {c : Nat} {bs : List Nat} (h : ∀ x, x < 7 → (l x).Ok) (he : IsEnc bs) (hc : c < 7) (hl : (l c).ps.length < 200) : ∀ x, x < 7 → (putL l c bs x).Ok := by
  intro x hx
  unfold putL
  by_cases e : x = c
  · rw [if_pos e]
    have h1 := h c hc
    refine ⟨h1.own, ?_, fun p hp => ?_, fun e2 => ?_, fun p S e2 => ?_⟩
    · show ((l c).ps ++ [bs]).length ≤ 200
      rw [List.length_append]
      simp only [List.length_cons, List.length_nil]
      omega
    · rcases List.mem_append.1 hp with h2 | h2
      · exact h1.enc p h2
      · rw [List.mem_singleton] at h2; subst h2; exact he
    · exact absurd e2 (by simp)
    · dsimp only at e2 ⊢
      cases hp : (l c).ps with
      | nil =>
        rw [hp] at e2
        rw [h1.g0 hp]
        simp only [List.nil_append, List.cons.injEq] at e2
        rw [← e2.1]
        have := he.len
        omega
      | cons a r =>
        rw [hp] at e2
        simp only [List.cons_append, List.cons.injEq] at e2
        rw [← e2.1]
        exact h1.g1 a r hp
  · rw [if_neg e]; exact h x hx
theorem one_row (U : World) (v : Value) (t : TypeId) : ∀ (k : Nat) (x : Value), [v][k]? = some x → (U.alloc (.cells #[v] t)).cell? ((⟨U.heap.size, 0, none⟩ : Addr).add k) = some x := new_cells U [v] t
set_option maxRecDepth 1000000 in
set_option maxHeartbeats 8000000 in
theorem put_ok (craft size master turn qb qc c : Nat) (l : Nat → LQ) (ba : Option Addr) (bn bc : Nat) (bs : List Nat) (W0 : World) (hs : SndL W0 qb qc l) (h1 : craft ≤ 1023) (h2 : 13 ≤ size) (h3 : size ≤ 2048) (h4 : master ≤ 255) (h5 : turn ≤ 6)
    (hc : c < 7) (hb : Rd W0 ba bn bc (vb bs)) (he : IsEnc bs) (hl : (l c).ps.length < 200) :
    Calls Try.prog 8 #[sv craft size master turn qb qc, .int .i64 (c : Int), .slice ba bn bc] W0 fun e w' => PutR W0 w' craft size master turn l c bs e := by
  have b1 := below_alloc W0 (.cells #[.int .i64 (craft : Int), .int .i64 (size : Int), .int .i64 (master : Int), .int .i64 (turn : Int), .slice (some ⟨qb, 0, none⟩) 7 qc] 26)
  have r1 := heap_alloc_new W0 (.cells #[.int .i64 (craft : Int), .int .i64 (size : Int), .int .i64 (master : Int), .int .i64 (turn : Int), .slice (some ⟨qb, 0, none⟩) 7 qc] 26)
  have z1 : Hid ((W0.alloc (.cells #[.int .i64 (craft : Int), .int .i64 (size : Int), .int .i64 (master : Int), .int .i64 (turn : Int), .slice (some ⟨qb, 0, none⟩) 7 qc] 26)).heap.size = W0.heap.size + 1) := World.size_alloc _ _
  obtain ⟨P, hP⟩ : ∃ P, P = W0.heap.size := ⟨_, rfl⟩
  rw [← hP] at r1 b1 z1
  have HP := hid hP
  have HS := hid hs
  have Hb := hid hb
  have HE := hid he
  have hbl := he.len
  have hbn : bs.length = bn := by have := hb.len; rwa [vb_len] at this
  have Hbn := hid hbn
  have hbn2 : bn ≤ 65542 := by omega
  clear hs hP hb he hbl hbn
  unfold sv
  go_enter Try.func8, Try.ntmps8
  refine wp_seq_k (fun K0 hK0 => ?_)
  go_wp2_with fail
  rw [← HP.out]
  refine hK0.out _ _ ?_
  generalize W0.alloc (.cells #[.int .i64 (craft : Int), .int .i64 (size : Int), .int .i64 (master : Int), .int .i64 (turn : Int), .slice (some ⟨qb, 0, none⟩) 7 qc] 26) = V1 at *
  have b2 := below_alloc V1 (.cells #[.int .i64 0, .int .i64 0, .int .i64 0, .int .i64 0, .slice none 0 0] 26)
  have r2 := heap_alloc_new V1 (.cells #[.int .i64 0, .int .i64 0, .int .i64 0, .int .i64 0, .slice none 0 0] 26)
  rw [z1.out] at r2
  have R1 := hid (row_below r1 b2)
  have R2 := hid r2
  have B2 := hid (b1.trans (b2.mono (by rw [z1.out]; exact Nat.le_succ _)))
  have zs2 : Hid ((V1.alloc (.cells #[.int .i64 0, .int .i64 0, .int .i64 0, .int .i64 0, .slice none 0 0] 26)).heap.size = P + 2) := by
    unfold Hid; rw [World.size_alloc, z1.out]
  clear b1 b2 r1 r2
  generalize V1.alloc (.cells #[.int .i64 0, .int .i64 0, .int .i64 0, .int .i64 0, .slice none 0 0] 26) = V2 at *
  have p0 : V2.cell? ⟨P, 0, none⟩ = some (.int .i64 (craft : Int)) := by rw [cell_of_row _ _ _ _ _ _ R1.out]; rfl
  have p1 : V2.cell? ⟨P, 1, none⟩ = some (.int .i64 (size : Int)) := by rw [cell_of_row _ _ _ _ _ _ R1.out]; rfl
  have p2 : V2.cell? ⟨P, 2, none⟩ = some (.int .i64 (master : Int)) := by rw [cell_of_row _ _ _ _ _ _ R1.out]; rfl
  have p3 : V2.cell? ⟨P, 3, none⟩ = some (.int .i64 (turn : Int)) := by rw [cell_of_row _ _ _ _ _ _ R1.out]; rfl
  have p4 : V2.cell? ⟨P, 4, none⟩ = some (.slice (some ⟨qb, 0, none⟩) 7 qc) := by rw [cell_of_row _ _ _ _ _ _ R1.out]; rfl
  have hs2 := HS.out.below (by rw [← HP.out]; exact B2.out)
  have hown := own_l_ok craft size master turn qb qc l V2 hs2 h1 h2 h3 h4 h5
  unfold sv at hown
  clear hs2
  refine wp_seq_k (fun K1 hK1 => ?_)
  go_wp2_with fail
  refine hown.mono ?_
  rintro e V3 ⟨⟨qb2, qc2, q, rfl, hq1, hq2, hqr, hqB, hoq, hdis⟩, hb3⟩
  unfold sv
  have hr1 := row_below R1.out hb3
  have p0 : V3.cell? ⟨P, 0, none⟩ = some (.int .i64 (craft : Int)) := by rw [cell_of_row _ _ _ _ _ _ hr1]; rfl
  have p1 : V3.cell? ⟨P, 1, none⟩ = some (.int .i64 (size : Int)) := by rw [cell_of_row _ _ _ _ _ _ hr1]; rfl
  have p2 : V3.cell? ⟨P, 2, none⟩ = some (.int .i64 (master : Int)) := by rw [cell_of_row _ _ _ _ _ _ hr1]; rfl
  have p3 : V3.cell? ⟨P, 3, none⟩ = some (.int .i64 (turn : Int)) := by rw [cell_of_row _ _ _ _ _ _ hr1]; rfl
  have p4 : V3.cell? ⟨P, 4, none⟩ = some (.slice (some ⟨qb, 0, none⟩) 7 qc) := by rw [cell_of_row _ _ _ _ _ _ hr1]; rfl
  have fz := frozen_row hr1
  obtain ⟨f1, f2⟩ := five hr1 (.int .i64 (craft : Int)) (.int .i64 (size : Int)) (.int .i64 (master : Int)) (.int .i64 (turn : Int)) (.slice (some ⟨qb2, 0, none⟩) 7 qc2)
  have HF1 := hid f1
  have HR2 := hid (row_grown (row_below R2.out hb3) f2 (Nat.succ_ne_self P))
  have hPl := row_lt R1.out
  have hb03 : Below P W0 V3 := B2.out.trans (hb3.mono (Nat.le_of_lt hPl))
  have HB3 := hid (hb03.grown f2 (by have := hb03.size; have := row_lt hr1; omega) (fun k e => by cases e; exact Nat.le_refl _))
  have HQR := hid (hqr.kept f2 (fun e => by cases e; exact absurd hqB (Nat.not_le.2 hPl)))
  have HOQ : Hid (∀ x, x < 7 → ((((((V3.setCell ⟨P, 0, none⟩ (.int .i64 (craft : Int))).setCell ⟨P, 1, none⟩ (.int .i64 (size : Int))).setCell ⟨P, 2, none⟩ (.int .i64 (master : Int))).setCell ⟨P, 3, none⟩ (.int .i64 (turn : Int))).setCell ⟨P, 4, none⟩ (.slice (some ⟨qb2, 0, none⟩) 7 qc2))).ownsRow (P + 2) 33 1 (.slice (q x).pa (q x).pn (q x).pc) (q x).pn (rcs (q x).R) ∧ (∀ r ∈ (q x).R, RdT 5 ((((((V3.setCell ⟨P, 0, none⟩ (.int .i64 (craft : Int))).setCell ⟨P, 1, none⟩ (.int .i64 (size : Int))).setCell ⟨P, 2, none⟩ (.int .i64 (master : Int))).setCell ⟨P, 3, none⟩ (.int .i64 (turn : Int))).setCell ⟨P, 4, none⟩ (.slice (some ⟨qb2, 0, none⟩) 7 qc2))) r.1.1 r.1.2.1 r.1.2.2 (vb r.2)) ∧ (q x).abs = l x) := fun x hx => by
    obtain ⟨j1, j2, j3⟩ := hoq x hx
    rw [zs2.out] at j1
    refine ⟨j1.kept f2 ?_, fun r hr => (j2 r hr).other f2 hr1 (by decide), j3⟩
    rcases own_ne j1 hr1 (by decide) with h | h
    · exact .inl h
    · exact .inr h
  have HDis := hid hdis
  have Hq := hid (And.intro hq1 hq2)
  have hqm := hq2
  unfold maxLen at hqm
  have hqbP : P < qb2 := by have := zs2.out; omega
  clear f1 f2 hr1 hqr hqB hoq hdis hb3 hb03 hown
  go_wp2_with fail
  refine hK1.out _ _ ?_
  clear p0 p1 p2 p3 p4 fz
  generalize ((((V3.setCell ⟨P, 0, none⟩ (.int .i64 (craft : Int))).setCell ⟨P, 1, none⟩ (.int .i64 (size : Int))).setCell ⟨P, 2, none⟩ (.int .i64 (master : Int))).setCell ⟨P, 3, none⟩ (.int .i64 (turn : Int))).setCell ⟨P, 4, none⟩ (.slice (some ⟨qb2, 0, none⟩) 7 qc2) = V4 at *
  have hone := one_ok ba bn bc bs V4 (Hb.out.below (by rw [← HP.out]; exact HB3.out)) HE.out
  refine wp_seq_k (fun K2 hK2 => ?_)
  go_wp2_with ((go_at_call 19; refine (in_f _ _ _ (by omega) (by omega)).mono ?_; rintro e w' ⟨rfl, hw'⟩; rw [hw']; clear hw' w'))
  refine hone.mono ?_
  rintro e V5 ⟨rfl, hb5⟩
  have F1 := hid (row_below HF1.out hb5)
  have R25 := hid (row_below HR2.out hb5)
  have QR5 := hid (HQR.out.below hb5)
  have OQ5 : Hid (∀ x, x < 7 → V5.ownsRow (P + 2) 33 1 (.slice (q x).pa (q x).pn (q x).pc) (q x).pn (rcs (q x).R) ∧ (∀ r ∈ (q x).R, RdT 5 V5 r.1.1 r.1.2.1 r.1.2.2 (vb r.2)) ∧ (q x).abs = l x) := fun x hx => by
    obtain ⟨j1, j2, j3⟩ := HOQ.out x hx
    exact ⟨ownsRow_below j1 hb5, fun r hr => (j2 r hr).below hb5, j3⟩
  have hPl4 := row_lt HF1.out
  have B5 := hid (HB3.out.trans (hb5.mono (Nat.le_of_lt hPl4)))
  have hPl5 := row_lt F1.out
  clear hone hb5 HF1 HR2 HQR HOQ HB3 hPl4
  have p4 : V5.cell? ⟨P, 4, none⟩ = some (.slice (some ⟨qb2, 0, none⟩) 7 qc2) := by rw [cell_of_row _ _ _ _ _ _ F1.out]; rfl
  obtain ⟨_, k1, _, _⟩ := QR5.out.cell c hc
  obtain ⟨j1, j2, j3⟩ := OQ5.out c hc
  have hpnl : (q c).pn = (l c).ps.length := by
    rw [← j3]
    show _ = (conts (q c).R).length
    rw [conts_len]
    have := j1.1
    rw [rcs_len, Nat.mul_one] at this
    exact this.symm
  have hpn : (q c).pn < 200 := by omega
  have e1 : (((q c).pn : Int) == 200) = false := by rw [beq_eq_false_iff_ne]; omega
  have e2 : ((q c).pn == 200) = false := by rw [beq_eq_false_iff_ne]; omega
  have e3 : decide (((q c).pn : Int) = 200) = false := decide_eq_false (by omega)
  have hc7 : (c : Int) < 7 := by omega
  obtain ⟨_, hpc0, hv0, hle0, hmx0, _⟩ := own_form j1
  have hpc1 : hpc0 = (q c).pc := by cases hv0; rfl
  rw [hpc1] at hle0 hmx0
  unfold maxLen at hmx0
  have J1 := hid j1
  clear j1 j2 j3 hpnl hv0 hpc1
  go_wp2_with fail
  refine hK2.out _ _ ?_
  refine wp_seq_k (fun K3 hK3 => ?_)
  go_wp2_with fail
  refine hK3.out _ _ ?_
  clear p4 e1 e2 e3
  obtain ⟨i33, hi33, hz33, hs33, hb33⟩ := info_parts Try.info33
  have hd : V5.grownBy V5.drew (Value.slice (q c).pa (q c).pn (q c).pc).ownBlock := grownBy_drew _ _
  have hqne : (Value.slice (q c).pa (q c).pn (q c).pc).ownBlock ≠ some qb2 := fun e => by
    obtain ⟨cq, hqr, _⟩ := QR5.out.ex
    exact own_ne5 J1.out (by decide) qb2 cq hqr e
  have e0 : ∀ w', V5.drew.grownBy w' (Value.slice (q c).pa (q c).pn (q c).pc).ownBlock → w'.cell? ⟨qb2, c * 3 + 1, none⟩ = some (.slice (q c).pa (q c).pn (q c).pc) := fun w' hw => (World.cell?_of_block ((grownBy_trans hd hw).block qb2 QR5.out.lt (fun e => hqne e.symm))).trans k1
  have hcl := hid (clone_any ba bn bc bs V5.drew ((Hb.out.below (by rw [← HP.out]; exact B5.out)).below ((Below.refl _ _).drew)) (by omega))
  have hds : Hid (V5.drew.heap.size = V5.heap.size) := rfl
  clear k1
  refine wp_seq_k (fun K4 hK4 => ?_)
  refine wp_region_late [11] [6, 7, 8, 11] [(true, [0, 1, 2, 3, 4, 5, 6, 7, 8]), (false, [9, 10, 11])] (fun u u' => u.grownBy u' (Value.slice (q c).pa (q c).pn (q c).pc).ownBlock) (fun _ _ => True) (fun _ => World.grownBy.refl _ _) (fun _ _ _ h k => grownBy_trans h k) (fun _ => trivial) (fun _ _ _ _ _ => trivial) (fun _ _ _ => trivial) (by kernel_rfl) (by kernel_rfl) ?_
  simp only [wpPh, List.map_cons, List.map_nil, List.contains_cons, List.contains_nil, List.getD_cons_zero, List.getD_cons_succ, Nat.reduceBEq, Bool.or_false, Bool.or_true]
  have HD := hid ((Below.refl V5.heap.size V5).drew)
  generalize V5.drew = U at *
  iterate 6 (refine wpL_do rfl (fun w' hw' => (by go_simp; rfl)) ?_; simp only [Act.put, List.setIfInBounds_toArray, List.set_cons_succ, List.set_cons_zero])
  clear e0
  refine wpL_call rfl (fun K hK => ?_)
  go_wp2_with fail
  refine hcl.out.mono ?_
  rintro e U1 ⟨ra, rc, rfl, ho1, hbU1⟩
  refine hK _ _ (grownBy_of_below hbU1 _) ?_
  clear hK K hcl
  try simp only [Act.put, List.setIfInBounds_toArray, List.set_cons_succ, List.set_cons_zero]
  have B1' := hid (HD.out.trans (hbU1.mono (Nat.le_of_eq hds.out.symm)))
  have O1 := hid (RdT.ofOwn ho1)
  clear ho1 hbU1 HD
  have b6 := below_alloc U1 (.cells #[.slice ra bn rc] 33)
  have hn6 := one_row U1 (.slice ra bn rc) 33
  refine wpL_call rfl (fun K hK => ?_)
  go_wp2_with fail
  refine hK _ _ (grownBy_of_below b6 _) ?_
  clear hK K
  try simp only [Act.put, List.setIfInBounds_toArray, List.set_cons_succ, List.set_cons_zero]
  have B6 := hid (B1'.out.trans (b6.mono B1'.out.size))
  have O6 := hid (O1.out.below b6)
  have J6 := hid (ownsRow_below J1.out B6.out)
  clear b6 B1' O1
  obtain ⟨N1, hN1⟩ : ∃ N1, N1 = U1.heap.size := ⟨_, rfl⟩
  rw [← hN1] at hn6 ⊢
  clear hN1
  generalize U1.alloc (.cells #[.slice ra bn rc] 33) = U2 at *
  refine wpL_call rfl (fun K hK => ?_)
  refine wp_append_wide_at (.tmp 47) (.tmp 50) 40 rfl (P + 2) 33 i33 _ 1 24 Try.underlying40 hi33 hz33 hs33 hb33 rfl (by decide) (.slice (q c).pa (q c).pn (q c).pc) (q c).pn (rcs (q c).R) rfl J6.out ⟨N1, 0, none⟩ 1 1 [.slice ra bn rc] rfl rfl hn6 (by intro u hu; rw [List.mem_singleton] at hu; subst hu; rfl) (by unfold maxLen; omega) (by omega) (by have := B6.out.size; have := row_lt R25.out; omega) ?_
  intro v' U3 o3 g3 _
  obtain ⟨va, vc, rfl, hv1, hv2, _⟩ := own_form o3
  refine hK _ _ g3 ?_
  clear hK K
  try simp only [Act.put, List.setIfInBounds_toArray, List.set_cons_succ, List.set_cons_zero]
  obtain ⟨q2, hq2⟩ : ∃ q2 : Nat → QS, q2 = fun x => if x = c then ⟨(q c).own, va, (q c).pn + 1, vc, (q c).R ++ [((ra, bn, rc), bs)], (q c).gone⟩ else q x := ⟨_, rfl⟩
  have hqc : q2 c = ⟨(q c).own, va, (q c).pn + 1, vc, (q c).R ++ [((ra, bn, rc), bs)], (q c).gone⟩ := by rw [hq2]; exact if_pos rfl
  have h5ne : ∀ b cs, U2.heap[b]? = some (.cells cs 5) → (Value.slice (q c).pa (q c).pn (q c).pc).ownBlock ≠ some b := own_ne5 J6.out (by decide)
  have hPM : PuM U3 0 qb2 c q q2 l bs := by
    refine ⟨(QR5.out.below B6.out).kept g3 hqne, fun x hx hxc => ?_, ?_, fun x hx => by rw [hq2]; exact if_neg hx, by rw [hqc]; exact ⟨rfl, rfl⟩, fun x hx => (OQ5.out x hx).2.2, ?_⟩
    · obtain ⟨j1, j2, _⟩ := OQ5.out x hx
      refine ⟨RdT.ofOwn ((ownsRow_below j1 B6.out).kept g3 ?_), fun r hr => ((j2 r hr).below B6.out).kept g3 h5ne⟩
      rcases e2 : (Value.slice (q x).pa (q x).pn (q x).pc).ownBlock with _ | k
      · exact .inl rfl
      · exact .inr (fun e3 => HDis.out x c hx hc hxc k e2 e3.symm)
    · rw [hqc]
      refine ⟨RdT.ofOwn (by rw [rcs_append]; exact o3), fun r hr => ?_⟩
      rcases List.mem_append.1 hr with h6 | h6
      · exact (((OQ5.out c hc).2.1 r h6).below B6.out).kept g3 h5ne
      · rw [List.mem_singleton] at h6
        subst h6
        exact O6.out.kept g3 h5ne
    · rw [hqc]
      show conts ((q c).R ++ [((ra, bn, rc), bs)]) = _
      have := (OQ5.out c hc).2.2
      rw [← this]
      unfold conts QS.abs
      rw [List.map_append]
      rfl
  obtain ⟨⟨hq7, hpk, habs⟩, hgs⟩ := hPM.store hc
  rw [hqc] at hq7 hpk hgs
  obtain ⟨_, k1, _, kf⟩ := hPM.qr.cell c hc
  have kf := kf (c * 3 + 1)
  have F3 : U3.heap[P]? = some (.cells #[.int .i64 (craft : Int), .int .i64 (size : Int), .int .i64 (master : Int), .int .i64 (turn : Int), .slice (some ⟨qb2, 0, none⟩) 7 qc2] 26) := by
    have h6 := row_below F1.out B6.out
    exact (g3.block P (row_lt h6) (fun e => own_ne5 J6.out (by decide) P _ h6 e.symm)).trans h6
  have R23 : U3.heap[P + 1]? = some (.cells #[.int .i64 0, .int .i64 0, .int .i64 0, .int .i64 0, .slice none 0 0] 26) := by
    have h6 := row_below R25.out B6.out
    exact (g3.block (P + 1) (row_lt h6) (fun e => own_ne5 J6.out (by decide) (P + 1) _ h6 e.symm)).trans h6
  obtain ⟨cq, hqr3, _⟩ := hPM.qr.ex
  have F4 := hid (row_grown F3 hgs (fun e => by
    rw [← e, F3] at hqr3
    injection hqr3 with e1
    injection e1 with e2 e3
    exact absurd e3 (by decide)))
  have R24 := hid (row_grown R23 hgs (fun e => by
    rw [← e, R23] at hqr3
    injection hqr3 with e1
    injection e1 with e2 e3
    exact absurd e3 (by decide)))
  have HS4 := hid (And.intro hq7 (And.intro hpk habs))
  have hB3 : Below P W0 U3 := by
    have h7 : Below P W0 U2 := B5.out.trans (B6.out.mono (Nat.le_of_lt hPl5))
    exact h7.grown g3 (by have := row_lt F1.out; have := B6.out.size; omega) (fun k hk => by have := (J6.out.lt k hk).1; omega)
  have HB4 := hid (hB3.grown hgs (by have := row_lt F3; omega) (fun k e => by cases e; exact Nat.le_of_lt hqbP))
  have Hq2 := hid hq2
  clear hPM hq7 hpk habs hgs F3 R23 hqr3 hB3 o3 g3 h5ne hqc hq2 J6 O6 hn6 QR5 OQ5 J1
  refine wpL_nil ?_
  iterate 2 (refine wpL_do rfl (fun w' hw' => (by go_simp; rfl)) ?_; simp only [Act.put, List.setIfInBounds_toArray, List.set_cons_succ, List.set_cons_zero])
  refine wpL_call rfl (fun K hK => ?_)
  go_wp2_with fail
  refine hK _ _ trivial ?_
  clear hK K k1 kf
  try simp only [Act.put, List.setIfInBounds_toArray, List.set_cons_succ, List.set_cons_zero]
  refine wpL_nil ?_
  refine hK4.out _ _ ?_
  generalize U3.setCell ⟨qb2, c * 3 + 1, none⟩ (.slice va ((q c).pn + 1) vc) = V7 at *
  have hr1 := F4.out
  have hr2 := R24.out
  have p0 : V7.cell? ⟨P, 0, none⟩ = some (.int .i64 (craft : Int)) := by rw [cell_of_row _ _ _ _ _ _ hr1]; rfl
  have p1 : V7.cell? ⟨P, 1, none⟩ = some (.int .i64 (size : Int)) := by rw [cell_of_row _ _ _ _ _ _ hr1]; rfl
  have p2 : V7.cell? ⟨P, 2, none⟩ = some (.int .i64 (master : Int)) := by rw [cell_of_row _ _ _ _ _ _ hr1]; rfl
  have p3 : V7.cell? ⟨P, 3, none⟩ = some (.int .i64 (turn : Int)) := by rw [cell_of_row _ _ _ _ _ _ hr1]; rfl
  have p4 : V7.cell? ⟨P, 4, none⟩ = some (.slice (some ⟨qb2, 0, none⟩) 7 qc2) := by rw [cell_of_row _ _ _ _ _ _ hr1]; rfl
  have t0 : V7.cell? ⟨P + 1, 0, none⟩ = some (.int .i64 0) := by rw [cell_of_row _ _ _ _ _ _ hr2]; rfl
  have t1 : V7.cell? ⟨P + 1, 1, none⟩ = some (.int .i64 0) := by rw [cell_of_row _ _ _ _ _ _ hr2]; rfl
  have t2 : V7.cell? ⟨P + 1, 2, none⟩ = some (.int .i64 0) := by rw [cell_of_row _ _ _ _ _ _ hr2]; rfl
  have t3 : V7.cell? ⟨P + 1, 3, none⟩ = some (.int .i64 0) := by rw [cell_of_row _ _ _ _ _ _ hr2]; rfl
  have t4 : V7.cell? ⟨P + 1, 4, none⟩ = some (.slice none 0 0) := by rw [cell_of_row _ _ _ _ _ _ hr2]; rfl
  have fz := frozen_row hr2
  obtain ⟨f1, f2⟩ := five hr2 (.int .i64 (craft : Int)) (.int .i64 (size : Int)) (.int .i64 (master : Int)) (.int .i64 (turn : Int)) (.slice (some ⟨qb2, 0, none⟩) 7 qc2)
  have HF1 := hid f1
  have HF2 := hid f2
  have HlP := hid (show P ≤ V7.heap.size from Nat.le_of_lt (row_lt hr1))
  clear hr1 hr2 f1 f2
  refine wp_seq_k (fun K5 hK5 => ?_)
  go_wp2_with fail
  refine hK5.out _ _ ?_
  clear p0 p1 p2 p3 p4 t0 t1 t2 t3 t4 fz
  generalize ((((V7.setCell ⟨P + 1, 0, none⟩ (.int .i64 (craft : Int))).setCell ⟨P + 1, 1, none⟩ (.int .i64 (size : Int))).setCell ⟨P + 1, 2, none⟩ (.int .i64 (master : Int))).setCell ⟨P + 1, 3, none⟩ (.int .i64 (turn : Int))).setCell ⟨P + 1, 4, none⟩ (.slice (some ⟨qb2, 0, none⟩) 7 qc2) = V8 at *
  go_wp2_with fail
  refine bodyPost_ret (results_c1 rfl _ _ (P + 1) 26 #[.int .i64 (craft : Int), .int .i64 (size : Int), .int .i64 (master : Int), .int .i64 (turn : Int), .slice (some ⟨qb2, 0, none⟩) 7 qc2] (0, 0) _ rfl HF1.out Try.underlying26 rfl (by kernel_rfl)) rfl ?_
  obtain ⟨m1, m2, m3⟩ := HS4.out
  obtain ⟨cq, hqr, _⟩ := m1.ex
  refine ⟨⟨qb2, qc2, rfl, ⟨q2, m1.kept HF2.out (ne_type R24.out (by decide) qb2 cq hqr), fun x hx => ?_, m3⟩, putL_ok HS.out.k HE.out hc hl, Hq.out.1, Hq.out.2⟩, ?_⟩
  · have h6 := m2 x hx
    exact h6.other HF2.out R24.out (by decide) (by decide)
  · rw [← HP.out]
    exact HB4.out.grown HF2.out HlP.out (fun k e => by cases e; exact Nat.le_succ P)
end Go.Proofs.Ytjiipmalahhcpaa
