/- deliver: a taker at work: it judges. -/
import Derived.Test.YtopmamgdfngdoaaWhole14
import Derived.Test.YtopmamgdfngdoaaWhole2
import Derived.Maps.AppendAt
import Derived.Test.YtopmamgdfngdoaaWhole1
namespace Go.Proofs.Ytopmamgdfngdoaa
set_option linter.unusedVariables false
open Go.RowKit

theorem fileT_all {F : Nat} {fl : List Nat} {hv : List Sp} (h : allH F hv = true) (hr : Ris 0 hv) (ht : ∀ s ∈ hv, s.2 ≤ F) (hl : fl.length = F) : topH hv = F ∧ fileT fl hv = fl := by
  have hle := topH_le ht
  have hF : topH hv = F ∧ ∀ x, x < F → hasH hv x = true := by
    unfold allH at h
    rw [Bool.or_eq_true] at h
    rcases h with h | h
    · have : F = 0 := by simpa using h
      exact ⟨by omega, fun x hx => by omega⟩
    · cases hv with
      | nil => cases h
      | cons s r =>
        simp only [Bool.and_eq_true, decide_eq_true_eq] at h
        have := hr.top_ge s List.mem_cons_self
        refine ⟨by omega, fun x hx => ?_⟩
        unfold hasH
        rw [List.any_cons, decide_eq_true (⟨by omega, by omega⟩ : s.1 ≤ x ∧ x < s.2)]
        rfl
  refine ⟨hF.1, ?_⟩
  unfold fileT
  rw [hF.1]
  apply List.ext_getElem
  · rw [List.length_map, List.length_range, hl]
  · intro i h1 h2
    rw [List.getElem_map, List.getElem_range, if_pos (hF.2 i (by rw [List.length_map, List.length_range] at h1; exact h1))]
    unfold nth
    rw [List.getD_eq_getElem?_getD, List.getElem?_eq_getElem h2]
    rfl
set_option maxRecDepth 100000 in
theorem run_cuth00 (ad : Addr) (c : Nat) (w : World) : (Instr.sliceAt 22 (.slice (some ad) 0 c) none (some (.int .i64 0)) none).run Try.prog w = .ok (.slice (some ad) 0 c) w := by
  have e2 : (0 : Int) ≤ c := by omega
  simp [go_sem, e2, Try.underlying22]
/-- a slice cut at its end -/
theorem cut_full {W : World} {a : Option Addr} {n c : Nat} {bs : List Nat} (h : RdT 5 W a n c (vb bs)) (w : World) : (Instr.sliceAt 22 (.slice a n c) none (some (.int .i64 (n : Int))) none).run Try.prog w = .ok (.slice a n c) w := by
  cases a with
  | none =>
    have hc := h.rd.isnil rfl
    have hle := h.rd.le
    obtain rfl : c = 0 := hc
    obtain rfl : n = 0 := by omega
    exact run_cuth0 w
  | some ad =>
    by_cases hn : n = 0
    · subst hn
      exact run_cuth00 ad c w
    · obtain ⟨b, off, cs, he, _⟩ := h.ty (by omega)
      cases he
      exact run_cuth b off n c n h.rd.le w
end Go.Proofs.Ytopmamgdfngdoaa
/- deliver: a taker at work: it judges (began as a print of genjud.py). -/
namespace Go.Proofs.Ytopmamgdfngdoaa
set_option linter.unusedVariables false
open Go.RowKit

set_option maxRecDepth 1000000 in
set_option maxHeartbeats 8000000 in
theorem judge_both (D : DP) (hD : DOk D) (hSum : SumOk D) (X B : Nat) (t : TS) (A : TA) (o : List NV) (w : World) (hB : B ≤ X) (h : TW D w X B t A o) (hn : o.length ≤ 100000) (hst : t.st = 0) (hr : Ris 0 t.hv) (ht : ∀ s ∈ t.hv, s.2 ≤ D.P.F) :
    Calls Try.prog 56 #[.pointer (some ⟨X, 0, none⟩)] w fun e w' => TwR D w w' X B (judgeT D.P t).1 (judgeT D.P t).2 e o (.tuple #[]) ∧ ((judgeT D.P t).2 = [] → Below w.heap.size w w') := by
  have hF := hD.P.F
  have hdr := (Below.refl w.heap.size w).drew
  have H := hid (h.below hdr)
  have S := hid ((TwS.refl w B).below (h.lt hB) hdr)
  have DR := hid hdr
  have HR := hid hr
  have HT := hid ht
  clear h hdr hr ht
  go_enter Try.func56, Try.ntmps56
  refine wp_seq_k (fun K0 hK0 => ?_)
  refine wp_seq_k (fun K1 hK1 => ?_)
  refine wp_region_can_all [37] [0, 1, 2, 3, 4, 5, 6, 7, 8, 9, 10, 11, 12, 13, 14, 15, 16, 17, 18, 19, 20, 21, 22, 23, 24, 25, 26, 27, 28, 29, 30, 31, 32, 33, 34, 35, 36, 37, 38, 39, 40] (fun u u' => u' = u) (fun _ => rfl) (fun _ _ _ h k => k.trans h) (by kernel_rfl) (by kernel_rfl) ?_
  simp only [List.map_cons, List.map_nil, List.contains_cons, List.contains_nil, List.getD_cons_zero, List.getD_cons_succ, Nat.reduceBEq, Bool.or_false]
  generalize w.drew = U at *
  have c1 : U.cell? ⟨X, 1, none⟩ = some (.bool t.kn) := by rw [cell_of_row _ _ _ _ _ _ H.out.bx]; rfl
  have c4 : U.cell? ⟨X, 4, none⟩ = some (.bool t.en) := by rw [cell_of_row _ _ _ _ _ _ H.out.bx]; rfl
  cases hkn : t.kn with
  | false =>
    rw [hkn] at c1
    have Ew : Hid (judgeT D.P t = (t, [])) := hid (by unfold judgeT; rw [hkn]; rfl)
    iterate 7 (refine wpL_do rfl (fun w' hw' => (by cases hw'; go_simp; rfl)) ?_; simp only [Act.put, List.setIfInBounds_toArray, List.set_cons_succ, List.set_cons_zero])
    iterate 6 ((with_reducible refine wpL_pass ?_ ?_); rfl; simp only [Act.put, List.setIfInBounds_toArray, List.set_cons_succ, List.set_cons_zero])
    iterate 2 (refine wpL_do rfl (fun w' hw' => (by cases hw'; go_simp; rfl)) ?_; simp only [Act.put, List.setIfInBounds_toArray, List.set_cons_succ, List.set_cons_zero])
    iterate 12 ((with_reducible refine wpL_pass ?_ ?_); rfl; simp only [Act.put, List.setIfInBounds_toArray, List.set_cons_succ, List.set_cons_zero])
    iterate 10 ((with_reducible refine wpL_pass ?_ ?_); rfl; simp only [Act.put, List.setIfInBounds_toArray, List.set_cons_succ, List.set_cons_zero])
    with_reducible refine wpL_hush ?_ ?_ ?_
    · rfl
    · rfl
    simp only [Act.put, List.setIfInBounds_toArray, List.set_cons_succ, List.set_cons_zero]
    iterate 2 ((with_reducible refine wpL_pass ?_ ?_); rfl; simp only [Act.put, List.setIfInBounds_toArray, List.set_cons_succ, List.set_cons_zero])
    iterate 1 (refine wpL_do rfl (fun w' hw' => (by cases hw'; go_simp; rfl)) ?_; simp only [Act.put, List.setIfInBounds_toArray, List.set_cons_succ, List.set_cons_zero])
    refine wpL_nil ?_
    refine hK1.out _ _ ?_
    refine wp_cond_true rfl ?_
    go_wp2_with fail
    refine bodyPost_ret (v := .tuple #[]) (by simp [results, Try.results56, go_sem]) rfl ?_
    rw [Ew.out]
    exact ⟨⟨rfl, ⟨A, [], by rw [List.append_nil]; exact H.out, rfl⟩, S.out⟩, fun _ => DR.out⟩
  | true =>
    cases hen : t.en with
    | false =>
      rw [hkn] at c1
      rw [hen] at c4
      have Ew : Hid (judgeT D.P t = (t, [])) := hid (by unfold judgeT; rw [hkn, hen]; rfl)
      iterate 7 (refine wpL_do rfl (fun w' hw' => (by cases hw'; go_simp; rfl)) ?_; simp only [Act.put, List.setIfInBounds_toArray, List.set_cons_succ, List.set_cons_zero])
      iterate 6 (refine wpL_do rfl (fun w' hw' => (by cases hw'; go_simp; rfl)) ?_; simp only [Act.put, List.setIfInBounds_toArray, List.set_cons_succ, List.set_cons_zero])
      iterate 2 (refine wpL_do rfl (fun w' hw' => (by cases hw'; go_simp; rfl)) ?_; simp only [Act.put, List.setIfInBounds_toArray, List.set_cons_succ, List.set_cons_zero])
      iterate 12 ((with_reducible refine wpL_pass ?_ ?_); rfl; simp only [Act.put, List.setIfInBounds_toArray, List.set_cons_succ, List.set_cons_zero])
      iterate 10 ((with_reducible refine wpL_pass ?_ ?_); rfl; simp only [Act.put, List.setIfInBounds_toArray, List.set_cons_succ, List.set_cons_zero])
      with_reducible refine wpL_hush ?_ ?_ ?_
      · rfl
      · rfl
      simp only [Act.put, List.setIfInBounds_toArray, List.set_cons_succ, List.set_cons_zero]
      iterate 2 ((with_reducible refine wpL_pass ?_ ?_); rfl; simp only [Act.put, List.setIfInBounds_toArray, List.set_cons_succ, List.set_cons_zero])
      iterate 1 (refine wpL_do rfl (fun w' hw' => (by cases hw'; go_simp; rfl)) ?_; simp only [Act.put, List.setIfInBounds_toArray, List.set_cons_succ, List.set_cons_zero])
      refine wpL_nil ?_
      refine hK1.out _ _ ?_
      refine wp_cond_true rfl ?_
      go_wp2_with fail
      refine bodyPost_ret (v := .tuple #[]) (by simp [results, Try.results56, go_sem]) rfl ?_
      rw [Ew.out]
      exact ⟨⟨rfl, ⟨A, [], by rw [List.append_nil]; exact H.out, rfl⟩, S.out⟩, fun _ => DR.out⟩
    | true =>
      rw [hkn] at c1
      rw [hen] at c4
      have c3 : U.cell? ⟨X, 3, none⟩ = some (.int .i64 (D.P.F : Int)) := by rw [cell_of_row _ _ _ _ _ _ H.out.bx]; unfold twc; rw [hkn]; rfl
      have c5 : U.cell? ⟨X, 5, none⟩ = some (.int .i64 (D.P.F : Int)) := by rw [cell_of_row _ _ _ _ _ _ H.out.bx]; unfold twc; rw [hen]; rfl
      have c7 : U.cell? ⟨X, 7, none⟩ = some (.slice A.ha t.hv.length A.hc) := by rw [cell_of_row _ _ _ _ _ _ H.out.bx]; rfl
      iterate 7 (refine wpL_do rfl (fun w' hw' => (by cases hw'; go_simp; rfl)) ?_; simp only [Act.put, List.setIfInBounds_toArray, List.set_cons_succ, List.set_cons_zero])
      iterate 6 (refine wpL_do rfl (fun w' hw' => (by cases hw'; go_simp; rfl)) ?_; simp only [Act.put, List.setIfInBounds_toArray, List.set_cons_succ, List.set_cons_zero])
      iterate 2 (refine wpL_do rfl (fun w' hw' => (by cases hw'; go_simp; rfl)) ?_; simp only [Act.put, List.setIfInBounds_toArray, List.set_cons_succ, List.set_cons_zero])
      iterate 10 (refine wpL_do rfl (fun w' hw' => (by cases hw'; go_simp; rfl)) ?_; simp only [Act.put, List.setIfInBounds_toArray, List.set_cons_succ, List.set_cons_zero])
      refine wpL_do (v := .bool true) rfl (fun w' hw' => (by cases hw'; go_simp)) ?_
      simp only [Act.put, List.setIfInBounds_toArray, List.set_cons_succ, List.set_cons_zero]
      iterate 1 (refine wpL_do rfl (fun w' hw' => (by cases hw'; go_simp; rfl)) ?_; simp only [Act.put, List.setIfInBounds_toArray, List.set_cons_succ, List.set_cons_zero])
      iterate 10 (refine wpL_do rfl (fun w' hw' => (by cases hw'; go_simp; rfl)) ?_; simp only [Act.put, List.setIfInBounds_toArray, List.set_cons_succ, List.set_cons_zero])
      have hal := hid (all_ok A.ha t.hv.length A.hc t.hv D.P.F U H.out.h)
      refine wpL_call rfl (fun K hK => ?_)
      go_wp2_with fail
      refine hal.out.mono ?_
      rintro e U' ⟨rfl, rfl⟩
      refine hK _ _ rfl ?_
      clear hK K hal
      try simp only [Act.put]
      cases hah : allH D.P.F t.hv with
      | false =>
        have Ew : Hid (judgeT D.P t = (t, [])) := hid (by unfold judgeT; rw [hkn, hen, hah]; rfl)
        iterate 3 (refine wpL_do rfl (fun w' hw' => (by cases hw'; go_simp; rfl)) ?_; simp only [Act.put, List.setIfInBounds_toArray, List.set_cons_succ, List.set_cons_zero])
        refine wpL_nil ?_
        refine hK1.out _ _ ?_
        refine wp_cond_true rfl ?_
        go_wp2_with fail
        refine bodyPost_ret (v := .tuple #[]) (by simp [results, Try.results56, go_sem]) rfl ?_
        rw [Ew.out]
        exact ⟨⟨rfl, ⟨A, [], by rw [List.append_nil]; exact H.out, rfl⟩, S.out⟩, fun _ => DR.out⟩
      | true =>
        have Ew : Hid (judgeT D.P t = ({ t with st := 3 }, [.nd])) := hid (by unfold judgeT; rw [hkn, hen, hah]; rfl)
        iterate 3 (refine wpL_do rfl (fun w' hw' => (by cases hw'; go_simp; rfl)) ?_; simp only [Act.put, List.setIfInBounds_toArray, List.set_cons_succ, List.set_cons_zero])
        refine wpL_nil ?_
        refine hK1.out _ _ ?_
        refine wp_cond_false rfl ?_
        go_wp2_with fail
        refine hK0.out _ _ ?_
        clear c1 c4 c3 c5 c7
        refine wp_seq_k (fun K2 hK2 => ?_)
        go_wp2_with fail
        refine hK2.out _ _ ?_
        have c9 : U.cell? ⟨X, 9, none⟩ = some (.int .i64 (t.st : Int)) := by rw [cell_of_row _ _ _ _ _ _ H.out.bx]; rfl
        have fz := frozen_row H.out.bx 9
        obtain ⟨k1, k2⟩ := H.out.num (t' := { t with st := 4 }) hB 9 (.int .i64 4) rfl rfl
        have H2 := hid k1
        have S2 := hid (S.out.trans k2)
        clear k1 k2 H S
        refine wp_seq_k (fun K3 hK3 => ?_)
        go_wp2_with fail
        refine hK3.out _ _ ?_
        clear c9 fz
        generalize U.setCell ⟨X, 9, none⟩ (.int .i64 4) = V at *
        obtain ⟨e1, e2⟩ := fileT_all hah HR.out HT.out hD.len
        have hdr := (Below.refl V.heap.size V).drew
        have H3 := hid (H2.out.below hdr)
        have S3 := hid (S2.out.below (H2.out.lt hB) hdr)
        clear hdr H2 S2
        have hf := H3.out.f
        dsimp only at hf
        rw [e1, e2] at hf
        refine wp_seq_k (fun K4 hK4 => ?_)
        refine wp_seq_k (fun K5 hK5 => ?_)
        refine wp_region_can_all [23] [0, 1, 2, 3, 4, 5, 6, 7, 8, 9, 10, 11, 12, 13, 14, 15, 16, 17, 18, 19, 20, 21, 22, 24, 25, 26, 27, 28, 23, 29, 30] Ext Ext.refl Ext.trans (by kernel_rfl) (by kernel_rfl) ?_
        simp only [List.map_cons, List.map_nil, List.contains_cons, List.contains_nil, List.getD_cons_zero, List.getD_cons_succ, Nat.reduceBEq, Bool.or_false]
        generalize V.drew = V2 at *
        have f3 : ∀ w', Ext V2 w' → w'.cell? ⟨X, 3, none⟩ = some (.int .i64 (D.P.F : Int)) := fun w' hb => by rw [cell_of_row _ _ _ _ _ _ (row_below H3.out.bx hb)]; unfold twc; rw [hkn]; rfl
        have f5 : ∀ w', Ext V2 w' → w'.cell? ⟨X, 5, none⟩ = some (.int .i64 (D.P.F : Int)) := fun w' hb => by rw [cell_of_row _ _ _ _ _ _ (row_below H3.out.bx hb)]; unfold twc; rw [hen]; rfl
        have f6 : ∀ w', Ext V2 w' → w'.cell? ⟨X, 6, none⟩ = some (.int .i64 (D.s : Int)) := fun w' hb => by rw [cell_of_row _ _ _ _ _ _ (row_below H3.out.bx hb)]; unfold twc; rw [hen]; rfl
        have f8 : ∀ w', Ext V2 w' → w'.cell? ⟨X, 8, none⟩ = some (.slice A.fa D.P.F A.fc) := fun w' hb => by
          rw [cell_of_row _ _ _ _ _ _ (row_below H3.out.bx hb), ← e1]; rfl
        have hcut := cut_full hf
        iterate 10 (refine wpL_do rfl (fun w' hw' => (by go_simp; rfl)) ?_; simp only [Act.put, List.setIfInBounds_toArray, List.set_cons_succ, List.set_cons_zero])
        refine wpL_do (v := .bool true) rfl (fun w' hw' => (by go_simp)) ?_
        simp only [Act.put, List.setIfInBounds_toArray, List.set_cons_succ, List.set_cons_zero]
        iterate 12 (refine wpL_do rfl (fun w' hw' => (by go_simp; rfl)) ?_; simp only [Act.put, List.setIfInBounds_toArray, List.set_cons_succ, List.set_cons_zero])
        iterate 5 (refine wpL_do rfl (fun w' hw' => (by go_simp; rfl)) ?_; simp only [Act.put, List.setIfInBounds_toArray, List.set_cons_succ, List.set_cons_zero])
        clear f3 f5 f6 f8 hcut
        have hsm := hid (hSum V2 A.fa D.P.F A.fc hf)
        refine wpL_call rfl (fun K hK => ?_)
        go_wp2_with fail
        refine hsm.out.mono ?_
        rintro e V3 ⟨rfl, hb⟩
        refine hK _ _ hb ?_
        clear hK K hsm hf
        try simp only [Act.put]
        have H4 := hid (H3.out.below hb)
        have S4 := hid (S3.out.below (H3.out.lt hB) hb)
        clear H3 S3 hb
        refine wpL_do (v := .bool true) rfl (fun w' hw' => (by go_simp)) ?_
        simp only [Act.put, List.setIfInBounds_toArray, List.set_cons_succ, List.set_cons_zero]
        iterate 1 (refine wpL_do rfl (fun w' hw' => (by go_simp; rfl)) ?_; simp only [Act.put, List.setIfInBounds_toArray, List.set_cons_succ, List.set_cons_zero])
        refine wpL_nil ?_
        refine hK5.out _ _ ?_
        refine wp_cond_true rfl ?_
        have c9 : V3.cell? ⟨X, 9, none⟩ = some (.int .i64 4) := by rw [cell_of_row _ _ _ _ _ _ H4.out.bx]; rfl
        have fz := frozen_row H4.out.bx 9
        obtain ⟨k1, k2⟩ := H4.out.num (t' := { t with st := 3 }) hB 9 (.int .i64 3) rfl rfl
        have H5 := hid k1
        have S5 := hid (S4.out.trans k2)
        clear k1 k2 H4 S4
        go_wp2_with fail
        refine hK4.out _ _ ?_
        clear c9 fz
        generalize V3.setCell ⟨X, 9, none⟩ (.int .i64 3) = V4 at *
        have hdn := hid (done_ok D X B { t with st := 3 } A o V4 hB H5.out hn)
        go_wp2_with fail
        refine hdn.out.mono ?_
        intro e W hs'
        obtain ⟨rfl, ⟨oa, oc, vs, hg, hks⟩, hsw⟩ := hs'
        have HG := hid hg
        have HS := hid (S5.out.trans hsw)
        have HK := hid hks
        clear hg hsw hks hdn H5 S5
        go_wp2_with fail
        go_end0
        rw [Ew.out]
        exact ⟨⟨rfl, ⟨_, vs, HG.out, HK.out⟩, HS.out⟩, fun h => by cases h⟩
end Go.Proofs.Ytopmamgdfngdoaa
/- append, at one operation: where the new slice lies. -/
namespace Go.Proofs.Ytopmamgdfngdoaa
set_option linter.unusedVariables false
open Go.RowKit

theorem wp_append_own_at {P : Program} {w : World} {o : Oper} {a : Act} {K : Act → World → Prop} {Q : Exit → Act → World → Prop} (s x : Operand) (t : TypeId)
    (ho : o.op = .call { callee := .builtin .append, args := #[s, x], argTypes := #[t, t] })
    (base : Nat) (e : TypeId) (i : TypeInfo) (z : Value) (size bytes : Nat) (ht : P.underlying t = some (.slice e)) (hi : P.info? e = some i) (hz : i.zero = some z)
    (hsize : i.size = size) (hby : i.bytes = bytes) (hzs : z.cells.size = size) (hsz : 0 < size)
    (v : Value) (n : Nat) (xs : List Value) (hs : a.eval s = v) (hown : w.ownsRow base e size v n xs)
    (ad : Addr) (m c : Nat) (news : List Value) (hx : a.eval x = .slice (some ad) m c) (hl : news.length = m * size) (hnews : ∀ j u, news[j]? = some u → w.cell? (ad.add j) = some u) (h1 : ∀ u ∈ news, u.oneCell' = true)
    (h63 : n + m ≤ maxLen) (hbytes : (n + m) * bytes ≤ 140737488355328) (hbase : base ≤ w.heap.size)
    (h : ∀ v' w', w'.ownsRow base e size v' (n + m) (xs ++ news) → w.grownBy w' v.ownBlock → (v'.ownBlock = v.ownBlock ∨ v'.ownBlock = some w.heap.size) → K (a.put o.dst v') w') : o.wp P a w K Q := by
  obtain ⟨v', w', hr, h2, h3, _, h5⟩ := run_append_own_at (P := P) w base t o.type e i z size bytes ht hi hz hsize hby hzs hsz v n xs hown ad m c news hl hnews h1 h63 hbytes hbase
  unfold Oper.wp execOp
  simp only [ho, resolve, invoke, builtin, Sem.run_bind, Sem.run_pure, Result.andThen_ok, List.map_toArray, List.map_cons, List.map_nil, hs, hx, hr]
  exact h v' w' h2 h3 h5
end Go.Proofs.Ytopmamgdfngdoaa
/- deliver: the taker asks for what is missing: plain; the rows between which it looks. -/
namespace Go.Proofs.Ytopmamgdfngdoaa
set_option linter.unusedVariables false
open Go.RowKit

/-- one row more is looked at -/
def gstep (F : Nat) (p : Nat × List Sp) (s : Sp) : Nat × List Sp := (s.2, p.2 ++ (if p.1 < min s.1 F then [(p.1, min s.1 F)] else []))
theorem gstep_all (F : Nat) : ∀ (l : List Sp) (x : Nat) (a : List Sp), (List.foldl (gstep F) (x, a) (l ++ [(F, F + 1)])).2 = a ++ gapsF F x l
  | [], x, a => by
    show a ++ _ = _
    unfold gapsF
    rw [Nat.min_self]
  | s :: r, x, a => by
    show (List.foldl (gstep F) (s.2, a ++ (if x < min s.1 F then [(x, min s.1 F)] else [])) (r ++ [(F, F + 1)])).2 = _
    rw [gstep_all F r]
    conv => rhs; unfold gapsF
    rw [List.append_assoc]
theorem gstep_len (F : Nat) : ∀ (l : List Sp) (p : Nat × List Sp), (List.foldl (gstep F) p l).2.length ≤ p.2.length + l.length
  | [], p => Nat.le_refl _
  | s :: r, p => by
    have h := gstep_len F r (gstep F p s)
    have h2 : (gstep F p s).2.length ≤ p.2.length + 1 := by
      unfold gstep
      dsimp only
      rw [List.length_append]
      split <;> simp
    rw [List.foldl_cons, List.length_cons]
    omega
set_option maxRecDepth 1000000 in
theorem fr76 (y : Nat → Value) : fr 76 y = #[y 0, y 1, y 2, y 3, y 4, y 5, y 6, y 7, y 8, y 9, y 10, y 11, y 12, y 13, y 14, y 15, y 16, y 17, y 18, y 19, y 20, y 21, y 22, y 23, y 24, y 25, y 26, y 27, y 28, y 29, y 30, y 31, y 32, y 33, y 34, y 35, y 36, y 37, y 38, y 39, y 40, y 41, y 42, y 43, y 44, y 45, y 46, y 47, y 48, y 49, y 50, y 51, y 52, y 53, y 54, y 55, y 56, y 57, y 58, y 59, y 60, y 61, y 62, y 63, y 64, y 65, y 66, y 67, y 68, y 69, y 70, y 71, y 72, y 73, y 74, y 75] := rfl
theorem spv_snoc (l : List Sp) (x y : Nat) : spv (l ++ [(x, y)]) = spv l ++ [.int .i64 (x : Int), .int .i64 (y : Int)] := by
  unfold spv
  rw [flat_snoc]
  rfl
/-- the rows that are there, and one behind all -/
structure AskL (W0 W : World) (l : List Sp) (z : Nat → Value) : Prop where
  ex : ∃ L c, z 36 = .slice (some ⟨L, 0, none⟩) l.length c ∧ W0.heap.size ≤ L ∧ L < W.heap.size ∧ RdS W (some ⟨L, 0, none⟩) l.length c l
  n : z 37 = .int .i64 (l.length : Int)
  i : z 38 = .int .i64 0
  blw : Below W0.heap.size W0 W
theorem AskL.ofOwn {W0 W : World} {l : List Sp} {z : Nat → Value} {a : Option Addr} {n c : Nat} (h0 : l.length = n) (hn : 0 < n) (h1 : z 36 = .slice a n c) (h2 : W.ownsRow W0.heap.size 84 2 (.slice a n c) n (spv l)) (h3 : z 37 = .int .i64 (n : Int)) (h4 : z 38 = .int .i64 0) (h5 : Below W0.heap.size W0 W) : AskL W0 W l z := by
  subst h0
  refine ⟨?_, h3, h4, h5⟩
  have hr := RdS.ofOwn h2
  rcases h2.2 with ⟨e1, e2⟩ | ⟨g, cap, cur, e1, e2, e3, _⟩
  · omega
  · cases e1
    exact ⟨g, c, h1, e2, row_lt e3, hr⟩
set_option maxRecDepth 1000000 in
set_option maxHeartbeats 8000000 in
theorem ask_list (D : DP) (hD : DOk D) (X B : Nat) (t : TS) (A : TA) (o : List NV) (hB : B ≤ X) (hen : t.en = true) (hln : t.hv.length ≤ 100000) :
    Tri Try.prog 76 (pieceOf Try.f25 [1, 1, 1, 0, 0]) (fun z w => z 0 = .pointer (some ⟨X, 0, none⟩) ∧ TW D w X B t A o)
      (fun z w z' w' => z' 0 = z 0 ∧ z' 2 = z 2 ∧ z' 3 = z 3 ∧ AskL w w' (t.hv ++ [(D.P.F, D.P.F + 1)]) z') := by
  obtain ⟨i0, hi, hz0, hz1, hz2⟩ := info_parts Try.info84
  have hF := hD.P.F
  rintro Q z w ⟨s0, h⟩ hQ
  have HQ := hid hQ
  clear hQ
  have H := hid h
  have a1 : IntKind.i64.wrap ((D.P.F : Int) + 1) = ((D.P.F + 1 : Nat) : Int) := by rw [IntWalk.i64_in _ (by omega)]; rfl
  obtain ⟨F, hFF⟩ : ∃ F, F = D.P.F := ⟨_, rfl⟩
  obtain ⟨F1, hF1⟩ : ∃ F1, F1 = D.P.F + 1 := ⟨_, rfl⟩
  rw [← hF1, ← hFF] at a1
  obtain ⟨hn, hhn⟩ : ∃ hn, hn = t.hv.length := ⟨_, rfl⟩
  have HL : Hid (spv (t.hv ++ [(D.P.F, D.P.F + 1)]) = spv t.hv ++ [.int .i64 (F : Int), .int .i64 (F1 : Int)]) := hid (by rw [hFF, hF1]; exact spv_snoc _ _ _)
  have HLn : Hid ((t.hv ++ [(D.P.F, D.P.F + 1)]).length = hn + 1) := hid (by rw [List.length_append, hhn]; rfl)
  have hcl := hid (fun W => cloneS A.ha hn A.hc t.hv W)
  have hnle : hn ≤ 100000 := by omega
  conv => arg 2; whnf
  rw [fr76]
  simp only [s0]
  have S0 := hid s0
  clear s0
  refine wp_region_plan [5, 18, 19] (Plan.of [0, 1, 2, 3, 4, 6, 7, 8, 9, 10, 11, 12, 13, 14, 15, 16, 17, 21] (.two 5 (Plan.of [18, 19, 20] .nil) 18 (Plan.of [5, 19, 20] .nil))) (Below w.heap.size) (fun _ => Below.refl _ _) (fun _ _ _ h k => h.trans k) (by kernel_rfl) (by kernel_rfl) ?_
  simp only [Plan.of, Plan.lay, List.contains_cons, List.contains_nil, List.getD_cons_zero, List.getD_cons_succ, Nat.reduceBEq, Bool.or_false, Bool.or_true]
  have hk : ∀ w', Below w.heap.size w.drew w' → Below w.heap.size w w' := fun w' h => (Below.refl _ w).drew.trans h
  have l5 : ∀ w', Below w.heap.size w.drew w' → w'.cell? ⟨X, 5, none⟩ = some (.int .i64 (F : Int)) := fun w' h => by rw [cell_of_row _ _ _ _ _ _ (row_below H.out.bx (hk w' h)), hFF]; unfold twc; rw [hen]; rfl
  have l7 : ∀ w', Below w.heap.size w.drew w' → w'.cell? ⟨X, 7, none⟩ = some (.slice A.ha hn A.hc) := fun w' h => by rw [cell_of_row _ _ _ _ _ _ (row_below H.out.bx (hk w' h)), hhn]; rfl
  have hr := H.out.h
  rw [← hhn] at hr
  have HR := hid (fun w' (h : Below w.heap.size w.drew w') => hr.below (hk w' h))
  have Hk := hid hk
  have hd1 : Hid (w.drew.heap.size = w.heap.size) := rfl
  clear hk H h hhn hFF hF1 hr
  generalize hBB : w.heap.size = B0 at *
  have HBB := hid hBB
  clear hBB
  generalize w.drew = U at *
  iterate 18 (refine wpTL_do rfl (fun w' hw' => (by go_simp; rfl)) ?_; simp only [Act.put, List.setIfInBounds_toArray, List.set_cons_succ, List.set_cons_zero])
  clear l5 l7
  refine wpTL_two ?_ ?_
  · refine wpTL_call rfl (fun K hK => ?_)
    go_wp2_with fail
    refine ((Hid.out hcl) U (HR.out U (Below.refl _ _)) (by omega)).mono ?_
    rintro e W1 ⟨da, dc, rfl, ho, b1⟩
    have hb1 := b1.mono (Nat.le_of_eq hd1.out.symm)
    have Hb1 := hid hb1
    have hsz := b1.size
    refine hK _ _ hb1 ?_
    clear hK K b1 hb1
    try simp only [Act.put, List.setIfInBounds_toArray, List.set_cons_succ, List.set_cons_zero]
    have hB1 : B0 ≤ W1.heap.size := by have := hd1.out; omega
    have ho2 := ownsRow_mono ho (Nat.le_of_eq hd1.out.symm)
    have b2 := below_alloc W1 (.cells #[.int .i64 (F : Int), .int .i64 (F1 : Int)] 84)
    refine wpTL_call rfl (fun K hK => ?_)
    go_wp2_with fail
    refine hK _ _ (b2.mono hB1) ?_
    clear hK K
    try simp only [Act.put, List.setIfInBounds_toArray, List.set_cons_succ, List.set_cons_zero]
    have hnew : ∀ (j : Nat) (u : Value), ([.int .i64 (F : Int), .int .i64 (F1 : Int)] : List Value)[j]? = some u → (W1.alloc (.cells #[.int .i64 (F : Int), .int .i64 (F1 : Int)] 84)).cell? ((⟨W1.heap.size, 0, none⟩ : Addr).add j) = some u := new_cells W1 [.int .i64 (F : Int), .int .i64 (F1 : Int)] 84
    have ho3 := ownsRow_below ho2 b2
    have hB2 : B0 ≤ (W1.alloc (.cells #[.int .i64 (F : Int), .int .i64 (F1 : Int)] 84)).heap.size := Nat.le_trans hB1 b2.size
    have Hb2 := hid (Hb1.out.trans (b2.mono hB1))
    generalize W1.alloc (.cells #[.int .i64 (F : Int), .int .i64 (F1 : Int)] 84) = W2 at *
    generalize W1.heap.size = Z at *
    refine wpTL_call rfl (fun K hK => ?_)
    refine wp_append_own _ (.tmp 22) (.tmp 35) 26 rfl B0 84 i0 _ 2 16 Try.underlying26 hi hz0 hz1 hz2 rfl (by decide) (.slice da hn dc) hn (spv t.hv) rfl ho3 ⟨Z, 0, none⟩ 1 1 [.int .i64 (F : Int), .int .i64 (F1 : Int)] rfl rfl hnew (by simp [Value.oneCell']) (by unfold maxLen; omega) (by omega) hB2 ?_
    intro v' W3 own4 g4 _
    obtain ⟨va, vc, rfl, _, _⟩ := own_slice own4
    have b4 := (Below.refl B0 W2).grown g4 hB2 (fun k hk => (ho3.lt k hk).1)
    have HO := hid own4
    have HB := hid ((Hk.out U (Below.refl _ _)).trans (Hb2.out.trans b4))
    refine hK _ _ b4 ?_
    clear hK K own4 g4 b4 ho3 ho2 ho hnew b2 Hb2 Hb1
    try simp only [Act.put, List.setIfInBounds_toArray, List.set_cons_succ, List.set_cons_zero]
    iterate 1 (refine wpTL_do rfl (fun w' hw' => (by go_simp; rfl)) ?_; simp only [Act.put, List.setIfInBounds_toArray, List.set_cons_succ, List.set_cons_zero])
    refine wpTL_nil ?_
    refine q_fr (N := 76) HQ.out rfl ⟨S0.out.symm, rfl, rfl, ?_⟩
    have e := HB.out
    have h2 := HO.out
    rw [← HL.out] at h2
    rw [← HBB.out] at e h2
    exact AskL.ofOwn HLn.out (Nat.succ_pos _) rfl h2 rfl rfl e
  · have b2 := below_alloc U (.cells #[.int .i64 (F : Int), .int .i64 (F1 : Int)] 84)
    refine wpTL_call rfl (fun K hK => ?_)
    go_wp2_with fail
    refine hK _ _ (b2.mono (Nat.le_of_eq hd1.out.symm)) ?_
    clear hK K
    try simp only [Act.put, List.setIfInBounds_toArray, List.set_cons_succ, List.set_cons_zero]
    have hnew : ∀ (j : Nat) (u : Value), ([.int .i64 (F : Int), .int .i64 (F1 : Int)] : List Value)[j]? = some u → (U.alloc (.cells #[.int .i64 (F : Int), .int .i64 (F1 : Int)] 84)).cell? ((⟨U.heap.size, 0, none⟩ : Addr).add j) = some u := new_cells U [.int .i64 (F : Int), .int .i64 (F1 : Int)] 84
    have hB1 : B0 ≤ (U.alloc (.cells #[.int .i64 (F : Int), .int .i64 (F1 : Int)] 84)).heap.size := Nat.le_trans (Nat.le_of_eq hd1.out.symm) b2.size
    have hb2 := b2.mono (Nat.le_of_eq hd1.out.symm)
    have Hb2 := hid hb2
    have hUn := heap_alloc_new U (.cells #[.int .i64 (F : Int), .int .i64 (F1 : Int)] 84)
    have hUsz := row_lt hUn
    have HR2 := HR.out _ hb2
    generalize U.alloc (.cells #[.int .i64 (F : Int), .int .i64 (F1 : Int)] 84) = W1 at *
    generalize U.heap.size = Z at *
    clear hb2
    refine wpTL_call rfl (fun K hK => ?_)
    go_wp2_with fail
    refine ((Hid.out hcl) W1 HR2 (by omega)).mono ?_
    rintro e W2 ⟨da, dc, rfl, ho, b1⟩
    have hb1 := b1.mono hB1
    have Hb1 := hid hb1
    have hnew2 : ∀ (j : Nat) (u : Value), ([.int .i64 (F : Int), .int .i64 (F1 : Int)] : List Value)[j]? = some u → W2.cell? ((⟨Z, 0, none⟩ : Addr).add j) = some u := fun j u hu => by
      have := hnew j u hu
      rw [Addr.add_lit] at this ⊢
      rw [b1.cell (p := ⟨Z, 0 + j, none⟩) hUsz]
      exact this
    refine hK _ _ hb1 ?_
    have hB2 : B0 ≤ W2.heap.size := Nat.le_trans hB1 b1.size
    have ho3 := ownsRow_mono ho hB1
    clear hK K b1 hb1 ho hUn hnew b2 HR2
    try simp only [Act.put, List.setIfInBounds_toArray, List.set_cons_succ, List.set_cons_zero]
    refine wpTL_call rfl (fun K hK => ?_)
    refine wp_append_own _ (.tmp 22) (.tmp 35) 26 rfl B0 84 i0 _ 2 16 Try.underlying26 hi hz0 hz1 hz2 rfl (by decide) (.slice da hn dc) hn (spv t.hv) rfl ho3 ⟨Z, 0, none⟩ 1 1 [.int .i64 (F : Int), .int .i64 (F1 : Int)] rfl rfl hnew2 (by simp [Value.oneCell']) (by unfold maxLen; omega) (by omega) hB2 ?_
    intro v' W3 own4 g4 _
    obtain ⟨va, vc, rfl, _, _⟩ := own_slice own4
    have b4 := (Below.refl B0 W2).grown g4 hB2 (fun k hk => (ho3.lt k hk).1)
    have HO := hid own4
    have HB := hid ((Hk.out U (Below.refl _ _)).trans (Hb2.out.trans (Hb1.out.trans b4)))
    refine hK _ _ b4 ?_
    clear hK K own4 g4 b4 ho3 hnew2 Hb2 Hb1
    try simp only [Act.put, List.setIfInBounds_toArray, List.set_cons_succ, List.set_cons_zero]
    iterate 1 (refine wpTL_do rfl (fun w' hw' => (by go_simp; rfl)) ?_; simp only [Act.put, List.setIfInBounds_toArray, List.set_cons_succ, List.set_cons_zero])
    refine wpTL_nil ?_
    refine q_fr (N := 76) HQ.out rfl ⟨S0.out.symm, rfl, rfl, ?_⟩
    have e := HB.out
    have h2 := HO.out
    rw [← HL.out] at h2
    rw [← HBB.out] at e h2
    exact AskL.ofOwn HLn.out (Nat.succ_pos _) rfl h2 rfl rfl e
end Go.Proofs.Ytopmamgdfngdoaa
