/- Passes: order. -/
import Derived.Test.YtfbchmihkndfaaaDue21
import Derived.Test.YtfbchmihkndfaaaDue3
import Derived.Maps.AppendAt
import Derived.Deep.DeepAppendWide
namespace Go.Proofs.Ytfbchmihkndfaaa
set_option linter.unusedVariables false
open Go.RowKit

def OrdLI (W0 : World) (la : Option Addr) (n cap gap : Nat) (l : List Ps) (ca : Option Addr) (m cc : Nat) (c : List Nat) (y : Nat → Value) (W : World) : Prop :=
  ∃ i, 1 ≤ i ∧ (i ≤ m ∨ i = 1) ∧ SO9 y la n cap gap ca m cc i ∧ (∀ k, k + 1 < i → fitsB l gap (nth c k) (nth c (k + 1)) = true) ∧ Below W0.heap.size W0 W
/-- what order answers -/
structure OrdR (W0 W : World) (l : List Ps) (gap : Nat) (c : List Nat) (e : Ending) : Prop where
  ex : ∃ b : Bool, e = .returned (.bool b) ∧ (b = true ↔ ChnA l gap c)
  blw : Below W0.heap.size W0 W
set_option maxRecDepth 1000000 in
set_option maxHeartbeats 2000000 in
theorem order_ok (la : Option Addr) (n cap gap : Nat) (l : List Ps) (ca : Option Addr) (m cc : Nat) (c : List Nat) (W0 : World) (hg : GoodPs l) (hgap : gap ≤ 1000) (hr : RdPs W0 la n cap l) (hc : Rd W0 ca m cc (vi c)) (hn : n ≤ 9) (hm : m ≤ 100) (hlt : ∀ k, k < m → nth c k < n) :
    Calls Try.prog 9 #[.slice la n cap, .int .i64 (gap : Int), .slice ca m cc] W0 fun e w' => OrdR W0 w' l gap c e := by
  have hcl : c.length = m := by have := hc.len; rwa [vi_len] at this
  have Hr := hid hr
  have Hc := hid hc
  have Hg := hid hg
  have Hcl := hid hcl
  have Hlt := hid hlt
  clear hr hc hg hcl hlt
  go_enter Try.func9, Try.ntmps9
  refine wp_seq_k (fun K0 hK0 => ?_)
  go_wp2_with fail
  refine hK0.out _ _ ?_
  refine wp_seq_k (fun K1 hK1 => ?_)
  go_wp2_with fail
  refine wp_loop_fr 46 (OrdLI W0 la n cap gap l ca m cc c) (fun y' _ => m - (intOf (y' 7)).toNat) ⟨rfl, rfl, 1, Nat.le_refl _, .inr rfl, ⟨rfl, rfl, rfl, rfl⟩, fun k hk => by omega, Below.refl _ _⟩ ?_
  rintro z W ⟨i, hi1, him, ⟨s0, s1, s2, s7⟩, hch, hB⟩
  have HB := hid hB
  have Hch := hid hch
  clear hB hch
  rw [fr46]
  simp only [s0, s1, s2, s7]
  clear s0 s1 s2 s7
  by_cases hlt : i < m
  · obtain ⟨j, rfl⟩ : ∃ j, i = j + 1 := ⟨i - 1, by omega⟩
    have ht := hid (two_ok la n cap gap l ca m cc j c W (Hr.out.below HB.out) (Hc.out.below HB.out) hn hm Hlt.out hlt)
    have gx := Hg.out (nth c j) (by rw [Hr.out.len]; exact Hlt.out j (by omega))
    have gz := Hg.out (nth c (j + 1)) (by rw [Hr.out.len]; exact Hlt.out (j + 1) hlt)
    have hx1 := gx.t
    have hz1 := gz.t
    have hz2 := gz.f
    have hfit : Hid (fitsB l gap (nth c j) (nth c (j + 1)) = decide ((pAt l (nth c j)).tt + (if (pAt l (nth c j)).st ≠ (pAt l (nth c (j + 1))).st then gap else 0) ≤ (pAt l (nth c (j + 1))).fr)) := rfl
    have hyes : Hid (fitsB l gap (nth c j) (nth c (j + 1)) = true → ∀ k, k + 1 < j + 1 + 1 → fitsB l gap (nth c k) (nth c (k + 1)) = true) := fun h k hk => by
      rcases Nat.lt_or_ge (k + 1) (j + 1) with h1 | h1
      · exact Hch.out k h1
      · obtain rfl : k = j := by omega
        exact h
    have hno : Hid (fitsB l gap (nth c j) (nth c (j + 1)) = false → ¬ ChnA l gap c) := fun h h2 => by
      rw [h2 j (by rw [Hcl.out]; exact hlt)] at h
      cases h
    clear gx gz
    generalize fitsB l gap (nth c j) (nth c (j + 1)) = fb at *
    generalize pAt l (nth c j) = p at *
    generalize pAt l (nth c (j + 1)) = q at *
    obtain ⟨p1, p2, p3, p4⟩ := p
    obtain ⟨q1, q2, q3, q4⟩ := q
    dsimp only at *
    have d1 : decide (((j : Int) + 1) < (m : Int)) = true := decide_eq_true (by omega)
    have d2 : decide (j + 1 < m) = true := decide_eq_true hlt
    go_upto_block 1 with (fail)
    refine wp_block ?_
    refine wp_seq ?_
    refine Tri.use ht.out rfl ⟨⟨rfl, rfl, rfl, rfl⟩, rfl⟩ ?_
    rintro y2 W2 ⟨⟨s0, s1, s2, s7⟩, A, B, s8, s9, hA, hBr, hb2⟩
    show Code.wp _ _ _ _ _
    unfold pRow at *
    have a0 : W2.cell? ⟨A, 0, none⟩ = some (.int .i64 (p1 : Int)) := by rw [cell_of_row _ _ _ _ _ _ hA]; rfl
    have a2 : W2.cell? ⟨A, 2, none⟩ = some (.int .i64 (p3 : Int)) := by rw [cell_of_row _ _ _ _ _ _ hA]; rfl
    have b0 : W2.cell? ⟨B, 0, none⟩ = some (.int .i64 (q1 : Int)) := by rw [cell_of_row _ _ _ _ _ _ hBr]; rfl
    have b1 : W2.cell? ⟨B, 1, none⟩ = some (.int .i64 (q2 : Int)) := by rw [cell_of_row _ _ _ _ _ _ hBr]; rfl
    have HB2 := hid (HB.out.trans (hb2.mono HB.out.size))
    clear hA hBr hb2
    rw [fr46]
    simp only [s0, s1, s2, s7, s8, s9]
    clear s0 s1 s2 s7 s8 s9
    by_cases hs : p1 = q1
    · subst hs
      rw [if_neg (fun h => h rfl), Nat.add_zero] at hfit
      by_cases hf : p3 ≤ q2
      · have e1 : decide ((q2 : Int) < (p3 : Int)) = false := decide_eq_false (by omega)
        have e2 : decide (q2 < p3) = false := decide_eq_false (by omega)
        have hy := hid (hyes.out (by rw [hfit.out]; exact decide_eq_true hf))
        clear hf hyes hno hfit
        go_wp2_with fail
        refine ⟨rfl, rfl, ⟨j + 1 + 1, by omega, .inl (by omega), ⟨rfl, rfl, rfl, ?_⟩, hy.out, HB2.out⟩, ?_⟩
        · show Value.int .i64 _ = Value.int .i64 _
          go_num
        · show m - (intOf (Value.int .i64 _)).toNat < _
          simp [intOf]
          omega
      · have e1 : decide ((q2 : Int) < (p3 : Int)) = true := decide_eq_true (by omega)
        have e2 : decide (q2 < p3) = true := decide_eq_true (by omega)
        have hy := hid (hno.out (by rw [hfit.out]; exact decide_eq_false hf))
        clear hf hyes hno hfit
        go_wp2_with fail
        go_ret
        exact ⟨⟨false, rfl, by simp; exact hy.out⟩, HB2.out⟩
    · rw [if_pos hs] at hfit
      have dn : ((p1 : Int) != (q1 : Int)) = true := by rw [bne_iff_ne]; omega
      obtain ⟨t2, ht2⟩ : ∃ t2, t2 = p3 + gap := ⟨_, rfl⟩
      have es : (p3 : Int) + (gap : Int) = (t2 : Int) := by omega
      rw [← ht2] at hfit
      have ht3 : t2 ≤ 2000 := by omega
      clear ht2 hs
      by_cases hf : t2 ≤ q2
      · have e1 : decide ((q2 : Int) < (t2 : Int)) = false := decide_eq_false (by omega)
        have e2 : decide (q2 < t2) = false := decide_eq_false (by omega)
        have hy := hid (hyes.out (by rw [hfit.out]; exact decide_eq_true hf))
        clear hf hyes hno hfit
        go_wp2_with fail
        refine ⟨rfl, rfl, ⟨j + 1 + 1, by omega, .inl (by omega), ⟨rfl, rfl, rfl, ?_⟩, hy.out, HB2.out⟩, ?_⟩
        · show Value.int .i64 _ = Value.int .i64 _
          go_num
        · show m - (intOf (Value.int .i64 _)).toNat < _
          simp [intOf]
          omega
      · have e1 : decide ((q2 : Int) < (t2 : Int)) = true := decide_eq_true (by omega)
        have e2 : decide (q2 < t2) = true := decide_eq_true (by omega)
        have hy := hid (hno.out (by rw [hfit.out]; exact decide_eq_false hf))
        clear hf hyes hno hfit
        go_wp2_with fail
        go_ret
        exact ⟨⟨false, rfl, by simp; exact hy.out⟩, HB2.out⟩
  · have d1 : decide ((i : Int) < (m : Int)) = false := decide_eq_false (by omega)
    have d2 : decide (i < m) = false := decide_eq_false hlt
    have hy : Hid (ChnA l gap c) := fun k hk => Hch.out k (by have := Hcl.out; omega)
    go_wp2_with fail
    refine hK1.out _ _ ?_
    go_wp2_with fail
    go_ret
    exact ⟨⟨true, rfl, by simp; exact hy.out⟩, HB.out⟩
end Go.Proofs.Ytfbchmihkndfaaa
/- append, at one operation: where the new slice lies. -/
namespace Go.Proofs.Ytfbchmihkndfaaa
set_option linter.unusedVariables false
open Go.RowKit

theorem wp_append_own_at {P : Program} {w : World} {o : Oper} {a : Act} {K : Act → World → Prop} {Q : Exit → Act → World → Prop} (s x : Operand) (t : TypeId)
    (ho : o.op = .call { callee := .builtin .append, args := #[s, x], argTypes := #[t, t] })
    (base : Nat) (e : TypeId) (i : TypeInfo) (z : Value) (size bytes : Nat) (ht : P.underlying t = some (.slice e)) (hi : P.info? e = some i) (hz : i.zero = some z)
    (hsize : i.size = size) (hby : i.bytes = bytes) (hzs : z.cells.size = size) (hsz : 0 < size)
    (v : Value) (n : Nat) (xs : List Value) (hs : a.eval s = v) (hown : w.ownsRow base e size v n xs)
    (ad : Addr) (m c : Nat) (news : List Value) (hx : a.eval x = .slice (some ad) m c) (hl : news.length = m * size) (hnews : ∀ j u, news[j]? = some u → w.cell? (ad.add j) = some u) (h1 : ∀ u ∈ news, u.oneCell' = true)
    (h63 : n + m ≤ maxLen) (hbytes : (n + m) * bytes ≤ 140737488355328) (hbase : base ≤ w.heap.size)
    (h : ∀ v' w', w'.ownsRow base e size v' (n + m) (xs ++ news) → w.grownBy w' v.ownBlock → (v'.ownBlock = v.ownBlock ∨ v'.ownBlock = some w.heap.size) → K (a.put o.dst v') w') : o.wp P a w K Q := by
  obtain ⟨v', w', hr, h2, h3, _, h5⟩ := run_append_own_at (P := P) w base t o.type e i z size bytes ht hi hz hsize hby hzs hsz v n xs hown ad m c news hl hnews h1 h63 hbytes hbase
  unfold Oper.wp execOp
  simp only [ho, resolve, invoke, builtin, Sem.run_bind, Sem.run_pure, Result.andThen_ok, List.map_toArray, List.map_cons, List.map_nil, hs, hx, hr]
  exact h v' w' h2 h3 h5
end Go.Proofs.Ytfbchmihkndfaaa
/- append with the wider bound: where the new slice lies. -/
namespace Go.Proofs.Ytfbchmihkndfaaa
set_option linter.unusedVariables false
open Go.RowKit

theorem own_where {P : Program} {w : World} {base : Nat} {t ty e : TypeId} {i : TypeInfo} {z : Value} (ht : P.underlying t = some (.slice e)) (hi : P.info? e = some i) (hz : i.zero = some z)
    {v : Value} {n : Nat} {xs : List Value} (hown : w.ownsRow base e i.size v n xs) {a : Addr} {m c : Nat} {news : List Value} (hl : news.length = m * i.size) (hnews : ∀ j u, news[j]? = some u → w.cell? (a.add j) = some u) (h1 : ∀ u ∈ news, u.oneCell' = true)
    (h63 : n + m ≤ maxLen) (hbytes : ((n + m) + (n + m) / 4 + 192) * i.bytes ≤ 281474976710656) {v' : Value} {w' : World} (hr : (Builtin.append_ #[t, t] ty #[v, .slice (some a) m c]).run P w = .ok v' w') :
    v'.ownBlock = v.ownBlock ∨ v'.ownBlock = some w.heap.size := by
  have hs : n + m ≤ 9223372036854775807 := by simp only [maxLen] at h63; omega
  rcases hown.2 with ⟨rfl, rfl⟩ | ⟨g, cap, cur, rfl, _, hg, hn, _, hc, _⟩
  · rcases Nat.eq_zero_or_pos m with h0 | h0
    · subst h0
      obtain rfl : news = [] := List.eq_nil_of_length_eq_zero (by simpa using hl)
      have h2 : (Builtin.append_ #[t, t] ty #[.slice none 0 0, .slice (some a) 0 c]).run P w = .ok (.slice none 0 0) w := by
        simp [Builtin.append_, run_underlying ht, sizeOf, typeInfo, hi, Builtin.lenOf, Builtin.firstCells, loadCells, loadCellsFrom]
      rw [h2] at hr
      cases hr
      exact .inl rfl
    · have h2 := run_append_nil (P := P) w t ty e i z ht hi hz a m c news hl hnews h0 (by omega) (Nat.le_trans (Nat.mul_le_mul_right _ (by omega)) hbytes)
      rw [h2] at hr
      cases hr
      exact .inr rfl
  · by_cases hroom : n + m ≤ cap
    · have h2 := run_append_room (P := P) w t ty e i ht hi g n cap cur hg a m c news hl hnews h1 hroom (by rw [hl, hc, ← Nat.add_mul]; exact Nat.mul_le_mul_right _ hroom)
      rw [h2] at hr
      cases hr
      exact .inl rfl
    · have h2 := run_append_grow (P := P) w t ty e i z ht hi hz ⟨g, 0, none⟩ n cap xs hown.1 (hown.cells (g := g) rfl) a m c news hl hnews (by omega) (by omega) (growslice_fits_wide (by omega) hbytes)
      rw [h2] at hr
      cases hr
      exact .inr rfl
theorem wp_append_wide_at {P : Program} {w : World} {o : Oper} {a : Act} {K : Act → World → Prop} {Q : Exit → Act → World → Prop} (s x : Operand) (t : TypeId)
    (ho : o.op = .call { callee := .builtin .append, args := #[s, x], argTypes := #[t, t] })
    (base : Nat) (e : TypeId) (i : TypeInfo) (z : Value) (size bytes : Nat) (ht : P.underlying t = some (.slice e)) (hi : P.info? e = some i) (hz : i.zero = some z)
    (hsize : i.size = size) (hby : i.bytes = bytes) (hzs : z.cells.size = size) (hsz : 0 < size)
    (v : Value) (n : Nat) (xs : List Value) (hs : a.eval s = v) (hown : w.ownsRow base e size v n xs)
    (ad : Addr) (m c : Nat) (news : List Value) (hx : a.eval x = .slice (some ad) m c) (hl : news.length = m * size) (hnews : ∀ j u, news[j]? = some u → w.cell? (ad.add j) = some u) (h1 : ∀ u ∈ news, u.oneCell' = true)
    (h63 : n + m ≤ maxLen) (hbytes : ((n + m) + (n + m) / 4 + 192) * bytes ≤ 281474976710656) (hbase : base ≤ w.heap.size)
    (h : ∀ v' w', w'.ownsRow base e size v' (n + m) (xs ++ news) → w.grownBy w' v.ownBlock → (v'.ownBlock = v.ownBlock ∨ v'.ownBlock = some w.heap.size) → K (a.put o.dst v') w') : o.wp P a w K Q := by
  obtain ⟨v', w', hr, h2, h3, _⟩ := run_append_own_wide (P := P) w base t o.type e i z size bytes ht hi hz hsize hby hzs hsz v n xs hown ad m c news hl hnews h1 h63 hbytes hbase
  have h5 : v'.ownBlock = v.ownBlock ∨ v'.ownBlock = some w.heap.size := by
    subst hsize
    subst hby
    exact own_where ht hi hz hown hl hnews h1 h63 hbytes hr
  unfold Oper.wp execOp
  simp only [ho, resolve, invoke, builtin, Sem.run_bind, Sem.run_pure, Result.andThen_ok, List.map_toArray, List.map_cons, List.map_nil, hs, hx, hr]
  exact h v' w' h2 h3 h5
theorem wpList_append_wide_at {P : Program} {w : World} {ops : Array Oper} {rest : List Oper} {o : Oper} {a : Act} {Q : Exit → Act → World → Prop} (hgd : o.guard = none) (s x : Operand) (t : TypeId)
    (ho : o.op = .call { callee := .builtin .append, args := #[s, x], argTypes := #[t, t] })
    (base : Nat) (e : TypeId) (i : TypeInfo) (z : Value) (size bytes : Nat) (ht : P.underlying t = some (.slice e)) (hi : P.info? e = some i) (hz : i.zero = some z)
    (hsize : i.size = size) (hby : i.bytes = bytes) (hzs : z.cells.size = size) (hsz : 0 < size)
    (v : Value) (n : Nat) (xs : List Value) (hs : a.eval s = v) (hown : w.ownsRow base e size v n xs)
    (ad : Addr) (m c : Nat) (news : List Value) (hx : a.eval x = .slice (some ad) m c) (hl : news.length = m * size) (hnews : ∀ j u, news[j]? = some u → w.cell? (ad.add j) = some u) (h1 : ∀ u ∈ news, u.oneCell' = true)
    (h63 : n + m ≤ maxLen) (hbytes : ((n + m) + (n + m) / 4 + 192) * bytes ≤ 281474976710656) (hbase : base ≤ w.heap.size)
    (h : ∀ v' w', w'.ownsRow base e size v' (n + m) (xs ++ news) → w.grownBy w' v.ownBlock → (v'.ownBlock = v.ownBlock ∨ v'.ownBlock = some w.heap.size) → wpList P ops Q rest (a.put o.dst v') w') : wpList P ops Q (o :: rest) a w :=
  wpList_plain hgd fun _ hK => wp_append_wide_at s x t ho base e i z size bytes ht hi hz hsize hby hzs hsz v n xs hs hown ad m c news hx hl hnews h1 h63 hbytes hbase fun v' w' h2 h3 h4 => hK _ _ (h v' w' h2 h3 h4)
end Go.Proofs.Ytfbchmihkndfaaa
