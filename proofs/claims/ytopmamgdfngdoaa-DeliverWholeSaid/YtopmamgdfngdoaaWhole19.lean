/- deliver: taking, around the closure of function 23 (printed by gentkg.py). -/
import Derived.Test.YtopmamgdfngdoaaWhole18
namespace Go.Proofs.Ytopmamgdfngdoaa
set_option linter.unusedVariables false
open Go.RowKit

/-- the memory of a taker that is held -/
structure TkT (D : DP) (W : World) (t : TS) (ha : Option Addr) (hc : Nat) (fa : Option Addr) (fc : Nat) : Prop where
  f : RdT 5 W fa (topH t.hv) fc (vb (fileT D.fl t.hv))
  h : RdS W ha t.hv.length hc t.hv
theorem TkT.below {D : DP} {W W' : World} {t : TS} {ha : Option Addr} {hc : Nat} {fa : Option Addr} {fc : Nat} (h : TkT D W t ha hc fa fc) (hb : Below W.heap.size W W') : TkT D W' t ha hc fa fc := ⟨h.f.below hb, h.h.below hb⟩
theorem TkT.stays {D : DP} {W W' : World} {t : TS} {ha : Option Addr} {hc : Nat} {fa : Option Addr} {fc : Nat} (h : TkT D W t ha hc fa fc) (h5 : Stays 5 W W') (h84 : Stays 84 W W') : TkT D W' t ha hc fa fc := ⟨h.f.stays h5, h.h.stays h84⟩
theorem TkT.tkm {D : DP} {W : World} {t : TS} {ha : Option Addr} {hn hc : Nat} {fa : Option Addr} {fn fc : Nat} (h : TkT D W t ha hc fa fc) (h1 : hn = t.hv.length) (h2 : fn = topH t.hv) : TkM D W t ha hn hc fa fn fc := by
  subst h1 h2
  exact ⟨h.h, h.f.rd⟩
/-- what Take and Wait answer -/
structure TakeR (D : DP) (W0 W : World) (t : TS) (ks : List NT) (e : Ending) : Prop where
  ex : ∃ ha hc fa fc oa oc vs, e = .returned (.tuple #[.agg (tcells D t ha t.hv.length hc fa (topH t.hv) fc), .slice oa (vs : List NV).length oc, .int .i64 0]) ∧ TkT D W t ha hc fa fc ∧ NRow D W W0.heap.size oa oc vs ∧ vs.map (·.k) = ks
  blw : Below W0.heap.size W0 W
set_option maxRecDepth 1000000 in
set_option maxHeartbeats 8000000 in
theorem taking23 (D : DP) (hD : DOk D) (t t' : TS) (ks : List NT) (ha : Option Addr) (hn hc : Nat) (fa : Option Addr) (fn fc : Nat) (w : World) (hT : TI D.P t) (hhn : hn = t.hv.length) (hfn : fn = topH t.hv) (hM : TkT D w t ha hc fa fc)
    (hturn : ∀ (X : Nat) (A : TA) (W : World), w.heap.size ≤ X → Below w.heap.size w W → TW D W X w.heap.size t A [] → A.oa = none → Calls Try.prog 23 #[.pointer (some ⟨X, 0, none⟩)] W fun e w' => TwR D W w' X w.heap.size t' ks e [] (.int .i64 0)) :
    Calls Try.prog 22 #[.agg (tcells D t ha hn hc fa fn fc), .func (.func 23) #[] #[]] w fun e w' => TakeR D w w' t' ks e := by
  have hF := hD.P.F
  have hlen := ris_len hT.ris hT.top (Nat.zero_le _)
  have htop := topH_le hT.top
  have hgv0 := hid (fun W h => takes_ok' D hD t ha hn hc fa fn fc W hT h)
  have HTw := hid (show ∀ ha' hc' fa' fc', twc D t ⟨ha', hc', fa', fc', none, 0⟩ t.hv.length (topH t.hv) 0 = (tcells D t ha' t.hv.length hc' fa' (topH t.hv) fc').push (.slice none 0 0) from fun _ _ _ _ => rfl)
  unfold tcells at hgv0 HTw ⊢
  generalize (if t.kn = true then logS else emS) = nm at *
  generalize (if t.kn = true then (D.P.F : Int) else 0) = sz at *
  generalize (if t.en = true then (D.P.F : Int) else 0) = la at *
  generalize (if t.en = true then (D.s : Int) else 0) = su at *
  have b1 := below_alloc w (.cells #[.int .i64 7, .bool t.kn, .string nm, .int .i64 sz, .bool t.en, .int .i64 la, .int .i64 su, .slice ha hn hc, .slice fa fn fc, .int .i64 (t.st : Int), .int .i64 (t.tm : Int), .int .i64 (D.P.p : Int), .int .i64 (t.tr : Int), .int .i64 100] 33)
  have A1 := heap_alloc_new w (.cells #[.int .i64 7, .bool t.kn, .string nm, .int .i64 sz, .bool t.en, .int .i64 la, .int .i64 su, .slice ha hn hc, .slice fa fn fc, .int .i64 (t.st : Int), .int .i64 (t.tm : Int), .int .i64 (D.P.p : Int), .int .i64 (t.tr : Int), .int .i64 100] 33)
  generalize hV1 : w.alloc (.cells #[.int .i64 7, .bool t.kn, .string nm, .int .i64 sz, .bool t.en, .int .i64 la, .int .i64 su, .slice ha hn hc, .slice fa fn fc, .int .i64 (t.st : Int), .int .i64 (t.tm : Int), .int .i64 (D.P.p : Int), .int .i64 (t.tr : Int), .int .i64 100] 33) = V1 at *
  have b2 := below_alloc V1 (.cells #[.int .i64 0, .bool false, .string { data := #[] }, .int .i64 0, .bool false, .int .i64 0, .int .i64 0, .slice none 0 0, .slice none 0 0, .int .i64 0, .int .i64 0, .int .i64 0, .int .i64 0, .int .i64 0] 33)
  have A2 := heap_alloc_new V1 (.cells #[.int .i64 0, .bool false, .string { data := #[] }, .int .i64 0, .bool false, .int .i64 0, .int .i64 0, .slice none 0 0, .slice none 0 0, .int .i64 0, .int .i64 0, .int .i64 0, .int .i64 0, .int .i64 0] 33)
  have A1' := row_below A1 b2
  have B2 := hid (b1.trans (b2.mono b1.size))
  have HM := hid (hM.below b1)
  have HT := hid hturn
  have Hhn := hid hhn
  have Hfn := hid hfn
  have hhn0 : hn ≤ 1000 := by omega
  have hfn0 : fn ≤ 1000 := by omega
  have hs1 := b1.size
  have hZ : w.heap.size ≤ V1.heap.size := hs1
  have hVs : w.heap.size < V1.heap.size := row_lt A1
  clear hM hturn b1 hhn hfn hT hlen htop
  go_enter Try.func22, Try.ntmps22
  refine wp_seq_k (fun K0 hK0 => ?_)
  go_wp2_with fail
  refine hK0.out _ _ ?_
  clear hV1
  generalize V1.alloc (.cells #[.int .i64 0, .bool false, .string { data := #[] }, .int .i64 0, .bool false, .int .i64 0, .int .i64 0, .slice none 0 0, .slice none 0 0, .int .i64 0, .int .i64 0, .int .i64 0, .int .i64 0, .int .i64 0] 33) = V2 at *
  have HM2 := hid (HM.out.below b2)
  clear b2 HM A1
  obtain ⟨Y, hY⟩ : ∃ Y, Y = w.heap.size := ⟨_, rfl⟩
  obtain ⟨Z, hZ'⟩ : ∃ Z, Z = V1.heap.size := ⟨_, rfl⟩
  rw [← hZ'] at A2 hZ hVs ⊢
  rw [← hY] at A1' ⊢
  have HY := hid hY
  clear hY hZ' hs1
  have hgv := hid (hgv0.out V2 (HM2.out.tkm Hhn.out Hfn.out))
  clear hgv0
  refine wp_seq_k (fun K1 hK1 => ?_)
  refine wp_seq_k (fun K2 hK2 => ?_)
  go_wp2_with (with_reducible refine wpList_load_row (o := ⟨some 9, _, _, _, _, _⟩) rfl 33 _ rfl Y rfl 33 _ _ _ A1' Try.underlying33 rfl (by kernel_rfl) ?_)
  refine hgv.out.mono ?_
  rintro e V3 ⟨rfl, hb⟩
  have HB3 := hid (B2.out.trans (hb.mono B2.out.size))
  have AY := row_below A1' hb
  have AZ := row_below A2 hb
  have HM3 := hid (HM2.out.below hb)
  clear hb hgv A1' A2 HM2 B2
  go_wp2_with fail
  refine hK2.out _ _ ?_
  refine wp_cond_false rfl ?_
  go_wp2_with fail
  refine hK1.out _ _ ?_
  refine wp_seq_k (fun K3 hK3 => ?_)
  go_wp2_with (with_reducible refine wpList_load_row (o := ⟨some 13, _, _, _, _, _⟩) rfl 33 _ rfl Y rfl 33 _ _ _ AY Try.underlying33 rfl (by kernel_rfl) ?_)
  refine hK3.out _ _ ?_
  obtain ⟨X, hX⟩ : ∃ X, X = V3.heap.size := ⟨_, rfl⟩
  rw [← hX]
  have b4 := below_alloc V3 (.cells #[.int .i64 7, .bool t.kn, .string nm, .int .i64 sz, .bool t.en, .int .i64 la, .int .i64 su, .slice ha hn hc, .slice fa fn fc, .int .i64 (t.st : Int), .int .i64 (t.tm : Int), .int .i64 (D.P.p : Int), .int .i64 (t.tr : Int), .int .i64 100, .slice none 0 0] 72)
  have A4 := heap_alloc_new V3 (.cells #[.int .i64 7, .bool t.kn, .string nm, .int .i64 sz, .bool t.en, .int .i64 la, .int .i64 su, .slice ha hn hc, .slice fa fn fc, .int .i64 (t.st : Int), .int .i64 (t.tm : Int), .int .i64 (D.P.p : Int), .int .i64 (t.tr : Int), .int .i64 100, .slice none 0 0] 72)
  rw [← hX] at A4
  have hYX : Y < X := by rw [hX]; exact row_lt AY
  have hZX : Z < X := by rw [hX]; exact row_lt AZ
  have hwX : w.heap.size ≤ X := by rw [hX]; exact HB3.out.size
  have AZ4 := row_below AZ b4
  have B4 := HB3.out.trans (b4.mono HB3.out.size)
  have HM4 := hid (HM3.out.below b4)
  generalize V3.alloc (.cells #[.int .i64 7, .bool t.kn, .string nm, .int .i64 sz, .bool t.en, .int .i64 la, .int .i64 su, .slice ha hn hc, .slice fa fn fc, .int .i64 (t.st : Int), .int .i64 (t.tm : Int), .int .i64 (D.P.p : Int), .int .i64 (t.tr : Int), .int .i64 100, .slice none 0 0] 72) = V4 at *
  clear b4 AY AZ hX HM3 HB3
  refine wp_seq_k (fun K4 hK4 => ?_)
  have hdr := (Below.refl V4.heap.size V4).drew
  have A5 := row_below A4 hdr
  have AZ5 := hid (row_below AZ4 hdr)
  have B5 := hid (B4.trans (hdr.mono B4.size))
  have HM5 := hid (HM4.out.below hdr)
  clear hdr A4 AZ4 B4 HM4
  refine wp_region_late [17, 21] [7, 13, 17, 21] [(false, [0, 1, 2, 3, 4, 5, 8, 9, 10, 11]), (true, [6, 12, 7, 13]), (false, [14, 15, 16, 17, 18, 19, 20, 21])] Ext (fun _ _ => True) Ext.refl Ext.trans (fun _ => trivial) (fun _ _ _ _ _ => trivial) (fun _ _ _ => trivial) (by kernel_rfl) (by kernel_rfl) ?_
  simp only [wpPh, List.map_cons, List.map_nil, List.contains_cons, List.contains_nil, List.getD_cons_zero, List.getD_cons_succ, Nat.reduceBEq, Bool.or_false, Bool.or_true]
  generalize V4.drew = U at *
  have f7 : ∀ w', Ext U w' → w'.cell? ⟨X, 7, none⟩ = some (.slice ha hn hc) := fun w' hb => by rw [cell_of_row _ _ _ _ _ _ (row_below A5 hb)]; rfl
  have f8 : ∀ w', Ext U w' → w'.cell? ⟨X, 8, none⟩ = some (.slice fa fn fc) := fun w' hb => by rw [cell_of_row _ _ _ _ _ _ (row_below A5 hb)]; rfl
  iterate 10 (refine wpL_do rfl (fun w' hw' => (by go_simp; rfl)) ?_; simp only [Act.put, List.setIfInBounds_toArray, List.set_cons_succ, List.set_cons_zero])
  refine wpL_nil ?_
  iterate 2 (refine wpL_do rfl (fun w' hw' => (by go_simp; rfl)) ?_; simp only [Act.put, List.setIfInBounds_toArray, List.set_cons_succ, List.set_cons_zero])
  clear f7 f8
  have hcl := hid (cloneS ha hn hc t.hv U (by rw [Hhn.out]; exact HM5.out.h) (Nat.le_trans hhn0 (by decide)))
  refine wpL_call rfl (fun K hK => ?_)
  go_wp2_with fail
  refine hcl.out.mono ?_
  rintro e U6 ⟨ha', hc', rfl, ho, hb⟩
  refine hK _ _ hb ?_
  clear hK K hcl
  try simp only [Act.put, List.setIfInBounds_toArray, List.set_cons_succ, List.set_cons_zero]
  have A6 := row_below A5 hb
  have AZ6 := hid (row_below AZ5.out hb)
  have HM6 := hid (HM5.out.below hb)
  have HO6 := hid (ownsRow_mono ho B5.out.size)
  have B6 := hid (B5.out.trans (hb.mono B5.out.size))
  clear A5 AZ5 HM5 B5 hb ho
  have hcl := hid (cloneB fa fn fc (fileT D.fl t.hv) U6 (by rw [Hfn.out]; exact HM6.out.f.rd) (Nat.le_trans hfn0 (by decide)))
  refine wpL_call rfl (fun K hK => ?_)
  go_wp2_with fail
  refine hcl.out.mono ?_
  rintro e U7 ⟨fa', fc', rfl, ho, hb⟩
  refine hK _ _ hb ?_
  clear hK K hcl
  try simp only [Act.put, List.setIfInBounds_toArray, List.set_cons_succ, List.set_cons_zero]
  try refine wpL_nil ?_
  have A7 := row_below A6 hb
  have AZ7 := hid (row_below AZ6.out hb)
  have HO7 := hid (ownsRow_below HO6.out hb)
  have HS7 := hid (ownsRow_mono ho B6.out.size)
  have B7 := hid (B6.out.trans (hb.mono B6.out.size))
  clear A6 AZ6 HM6 B6 HO6 hb ho
  have c7 : U7.cell? ⟨X, 7, none⟩ = some (.slice ha hn hc) := by rw [cell_of_row _ _ _ _ _ _ A7]; rfl
  have fz7 := frozen_row A7 7
  obtain ⟨m1, m2⟩ := set_row (cs' := #[.int .i64 7, .bool t.kn, .string nm, .int .i64 sz, .bool t.en, .int .i64 la, .int .i64 su, .slice ha' hn hc', .slice fa fn fc, .int .i64 (t.st : Int), .int .i64 (t.tm : Int), .int .i64 (D.P.p : Int), .int .i64 (t.tr : Int), .int .i64 100, .slice none 0 0]) A7 7 (.slice ha' hn hc') rfl
  have AZ8 := hid (row_grown AZ7.out m2 (fun e => by rw [e] at hZX; exact Nat.lt_irrefl _ hZX))
  have HO8 := hid (row_kept_own A7 HO7.out m2 (by decide))
  have HS8 := hid (row_kept_own A7 HS7.out m2 (by decide))
  have B8 := hid (B7.out.grown m2 B7.out.size (fun k e => by cases e; exact hwX))
  have A8 := hid m2
  clear m2 AZ7 HO7 HS7 B7
  iterate 3 (refine wpL_do rfl (fun w' hw' => (by go_simp; rfl)) ?_; simp only [Act.put, List.setIfInBounds_toArray, List.set_cons_succ, List.set_cons_zero])
  refine wpL_call rfl (fun K hK => ?_)
  go_wp2_with fail
  refine hK _ _ trivial ?_
  clear hK K c7 fz7 A7
  try simp only [Act.put, List.setIfInBounds_toArray, List.set_cons_succ, List.set_cons_zero]
  generalize U7.setCell ⟨X, 7, none⟩ (.slice ha' hn hc') = U8 at *
  have c8 : U8.cell? ⟨X, 8, none⟩ = some (.slice fa fn fc) := by rw [cell_of_row _ _ _ _ _ _ m1]; rfl
  have fz8 := frozen_row m1 8
  obtain ⟨k1, k2⟩ := set_row (cs' := #[.int .i64 7, .bool t.kn, .string nm, .int .i64 sz, .bool t.en, .int .i64 la, .int .i64 su, .slice ha' hn hc', .slice fa' fn fc', .int .i64 (t.st : Int), .int .i64 (t.tm : Int), .int .i64 (D.P.p : Int), .int .i64 (t.tr : Int), .int .i64 100, .slice none 0 0]) m1 8 (.slice fa' fn fc') rfl
  have AZ9 := hid (row_grown AZ8.out k2 (fun e => by rw [e] at hZX; exact Nat.lt_irrefl _ hZX))
  have HO9 := hid (row_kept_own m1 HO8.out k2 (by decide))
  have HS9 := hid (row_kept_own m1 HS8.out k2 (by decide))
  have B9 := hid (B8.out.grown k2 B8.out.size (fun k e => by cases e; exact hwX))
  have A9 := hid k1
  clear k1 k2 AZ8 HO8 HS8 B8 A8
  iterate 3 (refine wpL_do rfl (fun w' hw' => (by go_simp; rfl)) ?_; simp only [Act.put, List.setIfInBounds_toArray, List.set_cons_succ, List.set_cons_zero])
  refine wpL_call rfl (fun K hK => ?_)
  go_wp2_with fail
  refine hK _ _ trivial ?_
  clear hK K c8 fz8 m1
  try simp only [Act.put, List.setIfInBounds_toArray, List.set_cons_succ, List.set_cons_zero]
  try refine wpL_nil ?_
  generalize U8.setCell ⟨X, 8, none⟩ (.slice fa' fn fc') = U9 at *
  refine hK4.out _ _ ?_
  have hgw := hid (show TW D U9 X w.heap.size t ⟨ha', hc', fa', fc', none, 0⟩ [] from ⟨by rw [show ([] : List NV).length = 0 from rfl, HTw.out, ← Hhn.out, ← Hfn.out]; exact A9.out, by rw [← Hfn.out]; exact RdT.ofOwn HS9.out, by rw [← Hhn.out]; exact RdS.ofOwn HO9.out, ⟨rfl, .inl ⟨rfl, rfl⟩⟩, fun v hv => (by cases hv)⟩)
  have htn := hid (HT.out X ⟨ha', hc', fa', fc', none, 0⟩ U9 hwX B9.out hgw.out rfl)
  clear HO9 HS9 A9 hgw HT
  refine wp_seq_k (fun K5 hK5 => ?_)
  go_wp2_with fail
  refine htn.out.mono ?_
  intro e W hs'
  obtain ⟨rfl, ⟨A, vs, hg2, hks⟩, hsw⟩ := hs'
  rw [List.nil_append] at hg2
  have HG := hid hg2
  have HK := hid hks
  have AZ10 := hid (hsw.st 33 (by decide) (by decide) _ _ AZ9.out)
  have B10 := hid (B9.out.trans hsw.blw)
  clear hg2 hks hsw htn AZ9 B9
  go_wp2_with fail
  refine hK5.out _ _ ?_
  have hdr := (Below.refl W.heap.size W).drew
  have HG4 := hid (HG.out.below hdr)
  have AZ13 := row_below AZ10.out hdr
  have B13 := hid (B10.out.trans (hdr.mono B10.out.size))
  clear hdr HG AZ10 B10
  refine wp_seq_k (fun K7 hK7 => ?_)
  refine wp_region_can_all [9] [0, 1, 2, 3, 4, 5, 6, 7, 8, 9, 10, 11] (fun u u' => u'.heap[X]? = u.heap[X]?) (fun _ => rfl) (fun _ _ _ h k => k.trans h) (by kernel_rfl) (by kernel_rfl) ?_
  simp only [List.map_cons, List.map_nil, List.contains_cons, List.contains_nil, List.getD_cons_zero, List.getD_cons_succ, Nat.reduceBEq, Bool.or_false]
  generalize W.drew = W4 at *
  have f14 : ∀ w' : World, w'.heap[X]? = W4.heap[X]? → w'.cell? ⟨X, 14, none⟩ = some (.slice A.oa vs.length A.oc) := fun w' hb => by rw [cell_of_row _ _ _ _ _ _ (hb.trans HG4.out.bx)]; rfl
  obtain ⟨tc, htc⟩ : ∃ tc, tc = tcells D t' A.ha t'.hv.length A.hc A.fa (topH t'.hv) A.fc := ⟨_, rfl⟩
  have fld : ∀ w' : World, w'.heap[X]? = W4.heap[X]? → (Instr.loadAt 33 (.pointer (some ⟨X, 0, none⟩))).run Try.prog w' = .ok (.agg tc) w' := fun w' hb => by
    rw [htc]
    exact run_loadAt_mid w' X 0 33 (tcells D t' A.ha t'.hv.length A.hc A.fa (topH t'.hv) A.fc).toList _ (range_row (a := []) (z := [.slice A.oa vs.length A.oc]) (e := 72) (by rw [hb]; exact HG4.out.bx)) Try.underlying33 rfl (by kernel_rfl)
  have hone : tc.all (fun x => x.oneCell') = true := by rw [htc]; unfold tcells; simp [Value.oneCell']
  have hsz14 : tc.size = 14 := by rw [htc]; rfl
  have Htc := hid htc
  clear htc
  iterate 3 (refine wpL_do rfl (fun w' hw' => (by go_simp; rfl)) ?_; simp only [Act.put, List.setIfInBounds_toArray, List.set_cons_succ, List.set_cons_zero])
  refine wpL_load 33 _ ⟨X, 0, none⟩ _ rfl rfl rfl fld ?_
  simp only [Act.put, List.setIfInBounds_toArray, List.set_cons_succ, List.set_cons_zero]
  iterate 5 (refine wpL_do rfl (fun w' hw' => (by go_simp; rfl)) ?_; simp only [Act.put, List.setIfInBounds_toArray, List.set_cons_succ, List.set_cons_zero])
  clear f14 fld
  obtain ⟨m1, m2⟩ := set_whole (cs' := tc) AZ13
  have hXk : (W4.setRow Z tc).heap[X]? = W4.heap[X]? := (row_grown HG4.out.bx m2 (fun e => by rw [e] at hZX; exact Nat.lt_irrefl _ hZX)).trans HG4.out.bx.symm
  have s5 := Stays.ofSet m2 AZ13 (T := 5) (by decide)
  have s84 := Stays.ofSet m2 AZ13 (T := 84) (by decide)
  have HF := hid (HG4.out.f.stays s5)
  have HA := hid (HG4.out.h.stays s84)
  have HO := hid (row_kept_own AZ13 HG4.out.ow m2 (by decide))
  have HN := hid (fun v hv => (HG4.out.ns v hv).stays s5 s84)
  have B14 := hid (B13.out.grown m2 B13.out.size (fun k e => by cases e; exact hZ))
  have HM1 := hid m1
  refine wpL_call rfl (fun K hK => ?_)
  refine wp_store_row 33 _ _ rfl Z tc rfl rfl 33 _ AZ13 (by rw [hsz14]; rfl) (by rw [hsz14]; rfl) hone ?_
  refine hK _ _ hXk ?_
  clear hK K m1 m2 s5 s84 AZ13 hXk HG4 B13 hone hsz14
  try simp only [Act.put]
  generalize W4.setRow Z _ = W5 at *
  iterate 2 (refine wpL_do rfl (fun w' hw' => (by go_simp; rfl)) ?_; simp only [Act.put, List.setIfInBounds_toArray, List.set_cons_succ, List.set_cons_zero])
  refine wpL_nil ?_
  refine hK7.out _ _ ?_
  have hm1 := HM1.out
  rw [Htc.out] at hm1
  go_wp2_with fail
  refine bodyPost_ret (results_c2 (fn := Try.f22) rfl _ W5 Z 33 _ _ rfl hm1 (by kernel_rfl) (by kernel_rfl)) rfl ?_
  exact ⟨⟨_, _, _, _, _, _, vs, rfl, ⟨HF.out, HA.out⟩, ⟨HO.out, HN.out⟩, HK.out⟩, B14.out⟩
end Go.Proofs.Ytopmamgdfngdoaa
/- deliver: a tick of a taker at work (walk 23). -/
namespace Go.Proofs.Ytopmamgdfngdoaa
set_option linter.unusedVariables false
open Go.RowKit

set_option maxRecDepth 1000000 in
set_option maxHeartbeats 8000000 in
theorem wait1_ok (D : DP) (hD : DOk D) (X B : Nat) (t : TS) (A : TA) (w : World) (hB : B ≤ X) (hT : TI D.P t) (h : TW D w X B t A []) (htr : t.st = 0 → t.tr < 100) :
    Calls Try.prog 23 #[.pointer (some ⟨X, 0, none⟩)] w fun e w' => TwR D w w' X B (waitT D.P t).1 (waitT D.P t).2 e [] (.int .i64 0) := by
  have hF := hD.P.F
  have hlen := ris_len hT.ris hT.top (Nat.zero_le _)
  have htr1 := hT.tr
  have H := hid h
  have HT := hid hT
  have hlt := hid (late_ok D hD X B t A [] w hB h hT.tm)
  have c9 : w.cell? ⟨X, 9, none⟩ = some (.int .i64 (t.st : Int)) := by rw [cell_of_row _ _ _ _ _ _ h.bx]; rfl
  have c4 : w.cell? ⟨X, 4, none⟩ = some (.bool t.en) := by rw [cell_of_row _ _ _ _ _ _ h.bx]; rfl
  have hss := hT.st
  obtain ⟨q, hq⟩ : ∃ q, q = (t.tm + 1) % D.P.p := ⟨_, rfl⟩
  rw [← hq] at hlt
  have HQ := hid hq
  clear h hT hq
  go_enter Try.func23, Try.ntmps23
  refine wp_seq_k (fun K0 hK0 => ?_)
  go_wp2_with fail
  refine hK0.out _ _ ?_
  refine wp_seq_k (fun K1 hK1 => ?_)
  refine wp_block ?_
  refine wp_seq_k (fun K2 hK2 => ?_)
  rcases hss with h0 | h3
  · rw [h0] at c9
    cases hen : t.en with
    | true =>
      rw [hen] at c4
      go_wp2_with fail
      refine hK2.out _ _ ?_
      refine wp_cond_true rfl ?_
      clear c9 c4
      refine wp_seq_k (fun K3 hK3 => ?_)
      refine wp_seq_k (fun K4 hK4 => ?_)
      by_cases hz : q = 0
      · have dz : decide (q = 0) = true := decide_eq_true hz
        rw [dz] at hlt
        have Ew : Hid (waitT D.P t = ({ t with tm := q, tr := t.tr + 1 }, askT D.P t)) := hid (by
          unfold waitT
          have h1 := htr h0
          rw [if_pos ⟨h0, hen⟩, ← HQ.out, if_pos hz, if_neg (by omega), hz])
        go_wp2_with fail
        refine hlt.out.mono ?_
        rintro e V ⟨rfl, h1, h2⟩
        have H1 := hid h1
        have S1 := hid h2
        clear h1 h2 hlt dz H
        go_wp2_with fail
        refine hK4.out _ _ ?_
        refine wp_cond_false rfl ?_
        go_wp2_with fail
        refine hK3.out _ _ ?_
        refine wp_seq_k (fun K5 hK5 => ?_)
        refine wp_seq_k (fun K6 hK6 => ?_)
        refine wp_region_can_all [] [0, 1, 2, 3, 4, 5, 6, 7, 8, 9, 10] (fun u u' => u' = u) (fun _ => rfl) (fun _ _ _ h k => k.trans h) (by kernel_rfl) (by kernel_rfl) ?_
        simp only [List.map_cons, List.map_nil, List.contains_nil, List.getD_cons_zero, List.getD_cons_succ]
        have hdr := (Below.refl V.heap.size V).drew
        have H2 := hid (H1.out.below hdr)
        have S2 := hid (S1.out.below (H1.out.lt hB) hdr)
        clear hdr H1 S1
        generalize V.drew = U at *
        have c12 : U.cell? ⟨X, 12, none⟩ = some (.int .i64 (t.tr : Int)) := by rw [cell_of_row _ _ _ _ _ _ H2.out.bx]; rfl
        have c13 : U.cell? ⟨X, 13, none⟩ = some (.int .i64 100) := by rw [cell_of_row _ _ _ _ _ _ H2.out.bx]; rfl
        have htr2 := htr h0
        have d1 : ((t.tr : Int) == 100) = false := by rw [beq_eq_false_iff_ne]; omega
        iterate 11 (refine wpL_do rfl (fun w' hw' => (by cases hw'; go_simp; rfl)) ?_; simp only [Act.put, List.setIfInBounds_toArray, List.set_cons_succ, List.set_cons_zero])
        refine wpL_nil ?_
        refine hK6.out _ _ ?_
        refine wp_cond_false rfl ?_
        go_wp2_with fail
        refine hK5.out _ _ ?_
        clear c13 d1
        have a1 : IntKind.i64.wrap ((t.tr : Int) + 1) = ((t.tr + 1 : Nat) : Int) := by rw [IntWalk.i64_in _ (by omega)]; rfl
        obtain ⟨tr', htr'⟩ : ∃ tr', tr' = t.tr + 1 := ⟨_, rfl⟩
        rw [← htr'] at a1 Ew
        clear htr'
        have fz12 := frozen_row H2.out.bx 12
        obtain ⟨m1, m2⟩ := H2.out.num (t' := { t with tm := q, tr := tr' }) hB 12 (.int .i64 (tr' : Int)) rfl rfl
        have H3 := hid m1
        have S3 := hid (S2.out.trans m2)
        clear m1 m2 H2 S2
        refine wp_seq_k (fun K7 hK7 => ?_)
        go_wp2_with fail
        refine hK7.out _ _ ?_
        clear c12 fz12 a1
        generalize U.setCell ⟨X, 12, none⟩ (.int .i64 (tr' : Int)) = V1 at *
        have ha := hid (ask_ok D hD X B { t with tm := q, tr := tr' } A [] V1 hB H3.out hen (show t.hv.length ≤ 100000 by omega) (fun s hs => ⟨HT.out.top s hs, by have := HT.out.ris.each s hs; have := HT.out.top s hs; omega⟩) (Nat.zero_le _))
        go_wp2_with fail
        refine ha.out.mono ?_
        rintro e V2 ⟨rfl, ⟨oa, oc, vs, k1, k2⟩, k3⟩
        have K1' := hid k1
        have K2' := hid k2
        have K3' := hid (S3.out.trans k3)
        clear k1 k2 k3 ha S3 H3
        go_wp2_with fail
        refine hK1.out _ _ ?_
        go_wp2_with fail
        go_ret
        rw [Ew.out]
        exact ⟨rfl, ⟨_, vs, K1'.out, K2'.out⟩, K3'.out⟩
      · have dz : decide (q = 0) = false := decide_eq_false hz
        rw [dz] at hlt
        have Ew : Hid (waitT D.P t = ({ t with tm := q }, [])) := hid (by
          unfold waitT
          rw [if_pos ⟨h0, hen⟩, ← HQ.out, if_neg hz])
        go_wp2_with fail
        refine hlt.out.mono ?_
        rintro e V ⟨rfl, h1, h2⟩
        have H1 := hid h1
        have S1 := hid h2
        clear h1 h2 hlt dz H
        go_wp2_with fail
        refine hK4.out _ _ ?_
        refine wp_cond_true rfl ?_
        go_wp2_with fail
        refine hK1.out _ _ ?_
        go_wp2_with fail
        go_ret
        rw [Ew.out]
        exact ⟨rfl, ⟨A, [], H1.out, rfl⟩, S1.out⟩
    | false =>
      rw [hen] at c4
      have Ew : Hid (waitT D.P t = (t, [])) := hid (by
        unfold waitT
        rw [if_neg (fun h => by rw [hen] at h; cases h.2), if_neg (fun h => by omega)])
      go_wp2_with fail
      refine hK2.out _ _ ?_
      refine wp_cond_false rfl ?_
      refine wp_seq_k (fun K3 hK3 => ?_)
      refine wp_region_can_all [21] [0, 1, 2, 3, 4, 5, 6, 7, 8, 9, 10, 11, 12, 13, 14, 15, 16, 17, 18, 19, 20, 21, 22, 23] (fun u u' => u' = u) (fun _ => rfl) (fun _ _ _ h k => k.trans h) (by kernel_rfl) (by kernel_rfl) ?_
      simp only [List.map_cons, List.map_nil, List.contains_cons, List.contains_nil, List.getD_cons_zero, List.getD_cons_succ, Nat.reduceBEq, Bool.or_false]
      have hdr := (Below.refl w.heap.size w).drew
      have H2 := hid (H.out.below hdr)
      have S2 := hid ((TwS.refl w B).below (H.out.lt hB) hdr)
      clear hdr H c9 c4 hlt
      generalize w.drew = U at *
      have c9 : U.cell? ⟨X, 9, none⟩ = some (.int .i64 0) := by rw [cell_of_row _ _ _ _ _ _ H2.out.bx, show (0 : Int) = (t.st : Int) by omega]; rfl
      iterate 7 (refine wpL_do rfl (fun w' hw' => (by cases hw'; go_simp; rfl)) ?_; simp only [Act.put, List.setIfInBounds_toArray, List.set_cons_succ, List.set_cons_zero])
      iterate 11 ((with_reducible refine wpL_pass ?_ ?_); rfl; simp only [Act.put, List.setIfInBounds_toArray, List.set_cons_succ, List.set_cons_zero])
      iterate 2 (refine wpL_do rfl (fun w' hw' => (by cases hw'; go_simp; rfl)) ?_; simp only [Act.put, List.setIfInBounds_toArray, List.set_cons_succ, List.set_cons_zero])
      iterate 1 ((with_reducible refine wpL_pass ?_ ?_); rfl; simp only [Act.put, List.setIfInBounds_toArray, List.set_cons_succ, List.set_cons_zero])
      with_reducible refine wpL_hush ?_ ?_ ?_
      · rfl
      · rfl
      simp only [Act.put, List.setIfInBounds_toArray, List.set_cons_succ, List.set_cons_zero]
      iterate 2 (refine wpL_do rfl (fun w' hw' => (by cases hw'; go_simp; rfl)) ?_; simp only [Act.put, List.setIfInBounds_toArray, List.set_cons_succ, List.set_cons_zero])
      refine wpL_nil ?_
      refine hK3.out _ _ ?_
      refine wp_cond_false rfl ?_
      go_wp2_with fail
      refine hK1.out _ _ ?_
      go_wp2_with fail
      go_ret
      rw [Ew.out]
      exact ⟨rfl, ⟨A, [], H2.out, rfl⟩, S2.out⟩
  · rw [h3] at c9
    go_wp2_with fail
    refine hK2.out _ _ ?_
    refine wp_cond_false rfl ?_
    clear c4 hlt
    by_cases hltt : t.tr < 100
    · have hltI : (t.tr : Int) < 100 := by omega
      have d1 : decide ((t.tr : Int) < 100) = true := decide_eq_true hltI
      refine wp_seq_k (fun K3 hK3 => ?_)
      refine wp_region_can 21 [] [0, 1, 2, 3, 4, 5, 6, 7, 8, 9, 10, 11, 12, 13, 14, 15, 16, 17, 18, 19, 20] (fun u u' => u' = u) (fun _ => rfl) (fun _ _ _ h k => k.trans h) (by kernel_rfl) (by kernel_rfl) ?_
      simp only [List.map_cons, List.map_nil, List.contains_nil, List.getD_cons_zero, List.getD_cons_succ]
      have hdr := (Below.refl w.heap.size w).drew
      have H2 := hid (H.out.below hdr)
      have S2 := hid ((TwS.refl w B).below (H.out.lt hB) hdr)
      clear hdr H c9
      generalize w.drew = U at *
      have c9 : U.cell? ⟨X, 9, none⟩ = some (.int .i64 3) := by rw [cell_of_row _ _ _ _ _ _ H2.out.bx, show (3 : Int) = (t.st : Int) by omega]; rfl
      have c12 : U.cell? ⟨X, 12, none⟩ = some (.int .i64 (t.tr : Int)) := by rw [cell_of_row _ _ _ _ _ _ H2.out.bx]; rfl
      have c13 : U.cell? ⟨X, 13, none⟩ = some (.int .i64 100) := by rw [cell_of_row _ _ _ _ _ _ H2.out.bx]; rfl
      have hlt2 := hid (late_ok D hD X B t A [] U hB H2.out HT.out.tm)
      rw [← HQ.out] at hlt2
      iterate 21 (refine wpL_do rfl (fun w' hw' => (by cases hw'; go_simp; rfl)) ?_; simp only [Act.put, List.setIfInBounds_toArray, List.set_cons_succ, List.set_cons_zero])
      refine wpL_nil ?_
      simp only [List.drop_succ_cons, List.drop_zero]
      clear c9 c12 c13 d1
      by_cases hz : q = 0
      · have dz : decide (q = 0) = true := decide_eq_true hz
        rw [dz] at hlt2
        have Ew : Hid (waitT D.P t = ({ t with tm := q, tr := t.tr + 1 }, [.nd])) := hid (by
          unfold waitT
          rw [if_neg (fun h => by omega), if_pos ⟨h3, hltt⟩, ← HQ.out, if_pos hz, hz])
        go_wp2_with fail
        refine hlt2.out.mono ?_
        rintro e V ⟨rfl, h1, h2⟩
        have H4 := hid h1
        have S4 := hid (S2.out.trans h2)
        clear h1 h2 hlt2 dz H2 S2
        go_wp2_with fail
        unfold OnlyOn
        refine hK3.out _ _ ?_
        refine wp_cond_true rfl ?_
        have c12 : V.cell? ⟨X, 12, none⟩ = some (.int .i64 (t.tr : Int)) := by rw [cell_of_row _ _ _ _ _ _ H4.out.bx]; rfl
        have a1 : IntKind.i64.wrap ((t.tr : Int) + 1) = ((t.tr + 1 : Nat) : Int) := by rw [IntWalk.i64_in _ (by omega)]; rfl
        obtain ⟨tr', htr'⟩ : ∃ tr', tr' = t.tr + 1 := ⟨_, rfl⟩
        rw [← htr'] at a1 Ew
        clear htr'
        have fz12 := frozen_row H4.out.bx 12
        obtain ⟨m1, m2⟩ := H4.out.num (t' := { t with tm := q, tr := tr' }) hB 12 (.int .i64 (tr' : Int)) rfl rfl
        have H5 := hid m1
        have S5 := hid (S4.out.trans m2)
        clear m1 m2 H4 S4
        refine wp_seq_k (fun K7 hK7 => ?_)
        go_wp2_with fail
        refine hK7.out _ _ ?_
        clear c12 fz12 a1
        generalize V.setCell ⟨X, 12, none⟩ (.int .i64 (tr' : Int)) = V1 at *
        have hdn := hid (done_ok D X B { t with tm := q, tr := tr' } A [] V1 hB H5.out (Nat.zero_le _))
        go_wp2_with fail
        refine hdn.out.mono ?_
        rintro e V2 ⟨rfl, ⟨oa, oc, vs, k1, k2⟩, k3⟩
        have K1' := hid k1
        have K2' := hid k2
        have K3' := hid (S5.out.trans k3)
        clear k1 k2 k3 hdn S5 H5
        go_wp2_with fail
        refine hK1.out _ _ ?_
        go_wp2_with fail
        go_ret
        rw [Ew.out]
        exact ⟨rfl, ⟨_, vs, K1'.out, K2'.out⟩, K3'.out⟩
      · have dz : decide (q = 0) = false := decide_eq_false hz
        rw [dz] at hlt2
        have Ew : Hid (waitT D.P t = ({ t with tm := q }, [])) := hid (by
          unfold waitT
          rw [if_neg (fun h => by omega), if_pos ⟨h3, hltt⟩, ← HQ.out, if_neg hz])
        go_wp2_with fail
        refine hlt2.out.mono ?_
        rintro e V ⟨rfl, h1, h2⟩
        have H4 := hid h1
        have S4 := hid (S2.out.trans h2)
        clear h1 h2 hlt2 dz H2 S2
        go_wp2_with fail
        unfold OnlyOn
        refine hK3.out _ _ ?_
        refine wp_cond_false rfl ?_
        go_wp2_with fail
        refine hK1.out _ _ ?_
        go_wp2_with fail
        go_ret
        rw [Ew.out]
        exact ⟨rfl, ⟨A, [], H4.out, rfl⟩, S4.out⟩
    · have hltI : ¬ (t.tr : Int) < 100 := by omega
      have d1 : decide ((t.tr : Int) < 100) = false := decide_eq_false hltI
      have Ew : Hid (waitT D.P t = (t, [])) := hid (by
        unfold waitT
        rw [if_neg (fun h => by omega), if_neg (fun h => hltt h.2)])
      refine wp_seq_k (fun K3 hK3 => ?_)
      refine wp_region_can_all [21] [0, 1, 2, 3, 4, 5, 6, 7, 8, 9, 10, 11, 12, 13, 14, 15, 16, 17, 18, 19, 20, 21, 22, 23] (fun u u' => u' = u) (fun _ => rfl) (fun _ _ _ h k => k.trans h) (by kernel_rfl) (by kernel_rfl) ?_
      simp only [List.map_cons, List.map_nil, List.contains_cons, List.contains_nil, List.getD_cons_zero, List.getD_cons_succ, Nat.reduceBEq, Bool.or_false]
      have hdr := (Below.refl w.heap.size w).drew
      have H2 := hid (H.out.below hdr)
      have S2 := hid ((TwS.refl w B).below (H.out.lt hB) hdr)
      clear hdr H c9
      generalize w.drew = U at *
      have c9 : U.cell? ⟨X, 9, none⟩ = some (.int .i64 3) := by rw [cell_of_row _ _ _ _ _ _ H2.out.bx, show (3 : Int) = (t.st : Int) by omega]; rfl
      have c12 : U.cell? ⟨X, 12, none⟩ = some (.int .i64 (t.tr : Int)) := by rw [cell_of_row _ _ _ _ _ _ H2.out.bx]; rfl
      have c13 : U.cell? ⟨X, 13, none⟩ = some (.int .i64 100) := by rw [cell_of_row _ _ _ _ _ _ H2.out.bx]; rfl
      iterate 20 (refine wpL_do rfl (fun w' hw' => (by cases hw'; go_simp; rfl)) ?_; simp only [Act.put, List.setIfInBounds_toArray, List.set_cons_succ, List.set_cons_zero])
      iterate 1 ((with_reducible refine wpL_pass ?_ ?_); rfl; simp only [Act.put, List.setIfInBounds_toArray, List.set_cons_succ, List.set_cons_zero])
      with_reducible refine wpL_hush ?_ ?_ ?_
      · rfl
      · rfl
      simp only [Act.put, List.setIfInBounds_toArray, List.set_cons_succ, List.set_cons_zero]
      iterate 2 (refine wpL_do rfl (fun w' hw' => (by cases hw'; go_simp; rfl)) ?_; simp only [Act.put, List.setIfInBounds_toArray, List.set_cons_succ, List.set_cons_zero])
      refine wpL_nil ?_
      refine hK3.out _ _ ?_
      refine wp_cond_false rfl ?_
      go_wp2_with fail
      refine hK1.out _ _ ?_
      go_wp2_with fail
      go_ret
      rw [Ew.out]
      exact ⟨rfl, ⟨A, [], H2.out, rfl⟩, S2.out⟩
end Go.Proofs.Ytopmamgdfngdoaa
/- deliver: Wait (printed by genwt.py). -/
namespace Go.Proofs.Ytopmamgdfngdoaa
set_option linter.unusedVariables false
open Go.RowKit

set_option maxRecDepth 1000000 in
set_option maxHeartbeats 8000000 in
theorem Wait_ok (D : DP) (hD : DOk D) (t : TS) (ha : Option Addr) (hn hc : Nat) (fa : Option Addr) (fn fc : Nat) (w : World) (hT : TI D.P t) (hhn : hn = t.hv.length) (hfn : fn = topH t.hv) (hM : TkT D w t ha hc fa fc) (htr : t.st = 0 → t.tr < 100) :
    Calls Try.prog 12 #[.agg (tcells D t ha hn hc fa fn fc)] w fun e w' => TakeR D w w' (waitT D.P t).1 (waitT D.P t).2 e := by
  have hgv0 := hid (fun (W : World) (h : TkT D W t ha hc fa fc) hturn => taking23 D hD t (waitT D.P t).1 (waitT D.P t).2 ha hn hc fa fn fc W hT hhn hfn h hturn)
  obtain ⟨t1, ht1⟩ : ∃ t1, t1 = (waitT D.P t).1 := ⟨_, rfl⟩
  obtain ⟨ks, hks0⟩ : ∃ ks, ks = (waitT D.P t).2 := ⟨_, rfl⟩
  rw [← ht1, ← hks0] at hgv0 ⊢
  have HT1 := hid ht1
  have HK1 := hid hks0
  clear ht1 hks0 hhn hfn
  unfold tcells at hgv0 ⊢
  generalize (if t.kn = true then logS else emS) = nm at *
  generalize (if t.kn = true then (D.P.F : Int) else 0) = sz at *
  generalize (if t.en = true then (D.P.F : Int) else 0) = la at *
  generalize (if t.en = true then (D.s : Int) else 0) = su at *
  have b1 := below_alloc w (.cells #[.int .i64 7, .bool t.kn, .string nm, .int .i64 sz, .bool t.en, .int .i64 la, .int .i64 su, .slice ha hn hc, .slice fa fn fc, .int .i64 (t.st : Int), .int .i64 (t.tm : Int), .int .i64 (D.P.p : Int), .int .i64 (t.tr : Int), .int .i64 100] 33)
  have A1 := heap_alloc_new w (.cells #[.int .i64 7, .bool t.kn, .string nm, .int .i64 sz, .bool t.en, .int .i64 la, .int .i64 su, .slice ha hn hc, .slice fa fn fc, .int .i64 (t.st : Int), .int .i64 (t.tm : Int), .int .i64 (D.P.p : Int), .int .i64 (t.tr : Int), .int .i64 100] 33)
  generalize hV1 : w.alloc (.cells #[.int .i64 7, .bool t.kn, .string nm, .int .i64 sz, .bool t.en, .int .i64 la, .int .i64 su, .slice ha hn hc, .slice fa fn fc, .int .i64 (t.st : Int), .int .i64 (t.tm : Int), .int .i64 (D.P.p : Int), .int .i64 (t.tr : Int), .int .i64 100] 33) = V1 at *
  have b2 := below_alloc V1 (.cells #[.int .i64 0, .bool false, .string { data := #[] }, .int .i64 0, .bool false, .int .i64 0, .int .i64 0, .slice none 0 0, .slice none 0 0, .int .i64 0, .int .i64 0, .int .i64 0, .int .i64 0, .int .i64 0] 33)
  have A2 := heap_alloc_new V1 (.cells #[.int .i64 0, .bool false, .string { data := #[] }, .int .i64 0, .bool false, .int .i64 0, .int .i64 0, .slice none 0 0, .slice none 0 0, .int .i64 0, .int .i64 0, .int .i64 0, .int .i64 0, .int .i64 0] 33)
  have A1' := row_below A1 b2
  have B2 := hid (b1.trans (b2.mono b1.size))
  have HM := hid (hM.below b1)
  have hs1 := b1.size
  have hZ : w.heap.size ≤ V1.heap.size := hs1
  clear hM b1
  go_enter Try.func12, Try.ntmps12
  refine wp_seq_k (fun K0 hK0 => ?_)
  go_wp2_with fail
  refine hK0.out _ _ ?_
  clear hV1
  generalize V1.alloc (.cells #[.int .i64 0, .bool false, .string { data := #[] }, .int .i64 0, .bool false, .int .i64 0, .int .i64 0, .slice none 0 0, .slice none 0 0, .int .i64 0, .int .i64 0, .int .i64 0, .int .i64 0, .int .i64 0] 33) = V2 at *
  have HM2 := hid (HM.out.below b2)
  clear b2 HM A1
  obtain ⟨Y, hY⟩ : ∃ Y, Y = w.heap.size := ⟨_, rfl⟩
  obtain ⟨Z, hZ'⟩ : ∃ Z, Z = V1.heap.size := ⟨_, rfl⟩
  rw [← hZ'] at A2 hZ ⊢
  rw [← hY] at A1' ⊢
  have HY := hid hY
  clear hY hZ' hs1
  have hgv := hid (hgv0.out V2 HM2.out (fun X A W h1 _ h2 _ => by rw [HT1.out, HK1.out]; exact wait1_ok D hD X V2.heap.size t A W h1 hT h2 htr))
  clear hgv0
  refine wp_seq_k (fun K1 hK1 => ?_)
  go_wp2_with (with_reducible refine wpList_load_row (o := ⟨some 5, _, _, _, _, _⟩) rfl 33 _ rfl Y rfl 33 _ _ _ A1' Try.underlying33 rfl (by kernel_rfl) ?_)
  refine hgv.out.mono ?_
  intro e V3 hr
  obtain ⟨⟨ha', hc', fa', fc', oa, oc, vs, rfl, hm, hn', hk⟩, hb⟩ := hr
  have AZ := row_below A2 hb
  have B3 := hid (B2.out.trans (hb.mono B2.out.size))
  have HN := hid (show NRow D V3 w.heap.size oa oc vs from ⟨ownsRow_mono hn'.ow B2.out.size, hn'.ns⟩)
  have HMr := hid hm
  have HK := hid hk
  clear hm hn' hk hb hgv A1' A2 HM2 B2
  obtain ⟨tc, htc⟩ : ∃ tc, tc = tcells D t1 ha' t1.hv.length hc' fa' (topH t1.hv) fc' := ⟨_, rfl⟩
  have hone : tc.all (fun x => x.oneCell') = true := by rw [htc]; unfold tcells; simp [Value.oneCell']
  have hsz14 : tc.size = 14 := by rw [htc]; rfl
  have Htc := hid htc
  rw [← htc]
  clear htc
  obtain ⟨m1, m2⟩ := set_whole (cs' := tc) AZ
  have s5 := Stays.ofSet m2 AZ (T := 5) (by decide)
  have s84 := Stays.ofSet m2 AZ (T := 84) (by decide)
  have HF := hid (HMr.out.stays s5 s84)
  have HO := hid (show NRow D _ w.heap.size oa oc vs from ⟨row_kept_own AZ HN.out.ow m2 (by decide), fun v hv => (HN.out.ns v hv).stays s5 s84⟩)
  have B14 := hid (B3.out.grown m2 B3.out.size (fun k e => by cases e; exact hZ))
  have HM1 := hid m1
  clear m1 m2 s5 s84 HN HMr B3
  go_wp2_with (with_reducible refine at_store 33 ?_)
  unfold Hid
  refine wpList_store_row rfl 33 _ _ rfl Z tc rfl rfl 33 _ AZ (by rw [hsz14]; rfl) (by rw [hsz14]; rfl) hone ?_
  clear AZ
  generalize V3.setRow Z _ = V4 at *
  go_wp2_with fail
  refine hK1.out _ _ ?_
  go_wp2_with fail
  have hm1 := HM1.out
  rw [Htc.out] at hm1
  refine bodyPost_ret (results_c2 (fn := Try.f12) rfl _ V4 Z 33 _ _ rfl hm1 (by kernel_rfl) (by kernel_rfl)) rfl ?_
  exact ⟨⟨_, _, _, _, _, _, vs, rfl, HF.out, HO.out, HK.out⟩, B14.out⟩
end Go.Proofs.Ytopmamgdfngdoaa
/- deliver: taking, around the closure of function 29 (printed by gentkg.py). -/
namespace Go.Proofs.Ytopmamgdfngdoaa
set_option linter.unusedVariables false
open Go.RowKit

set_option maxRecDepth 1000000 in
set_option maxHeartbeats 8000000 in
theorem taking29 (D : DP) (hD : DOk D) (t t' : TS) (ks : List NT) (ha : Option Addr) (hn hc : Nat) (fa : Option Addr) (fn fc : Nat) (N : Nat) (w : World) (hT : TI D.P t) (hhn : hn = t.hv.length) (hfn : fn = topH t.hv) (hM : TkT D w t ha hc fa fc)
    (hturn : ∀ (X : Nat) (A : TA) (W : World), w.heap.size ≤ X → Below w.heap.size w W → TW D W X w.heap.size t A [] → A.oa = none → Calls Try.prog 29 #[.pointer (some ⟨X, 0, none⟩), .pointer (some ⟨N, 0, none⟩)] W fun e w' => TwR D W w' X w.heap.size t' ks e [] (.int .i64 0)) :
    Calls Try.prog 22 #[.agg (tcells D t ha hn hc fa fn fc), .func (.func 29) #[] #[.pointer (some ⟨N, 0, none⟩)]] w fun e w' => TakeR D w w' t' ks e := by
  have hF := hD.P.F
  have hlen := ris_len hT.ris hT.top (Nat.zero_le _)
  have htop := topH_le hT.top
  have hgv0 := hid (fun W h => takes_ok' D hD t ha hn hc fa fn fc W hT h)
  have HTw := hid (show ∀ ha' hc' fa' fc', twc D t ⟨ha', hc', fa', fc', none, 0⟩ t.hv.length (topH t.hv) 0 = (tcells D t ha' t.hv.length hc' fa' (topH t.hv) fc').push (.slice none 0 0) from fun _ _ _ _ => rfl)
  unfold tcells at hgv0 HTw ⊢
  generalize (if t.kn = true then logS else emS) = nm at *
  generalize (if t.kn = true then (D.P.F : Int) else 0) = sz at *
  generalize (if t.en = true then (D.P.F : Int) else 0) = la at *
  generalize (if t.en = true then (D.s : Int) else 0) = su at *
  have b1 := below_alloc w (.cells #[.int .i64 7, .bool t.kn, .string nm, .int .i64 sz, .bool t.en, .int .i64 la, .int .i64 su, .slice ha hn hc, .slice fa fn fc, .int .i64 (t.st : Int), .int .i64 (t.tm : Int), .int .i64 (D.P.p : Int), .int .i64 (t.tr : Int), .int .i64 100] 33)
  have A1 := heap_alloc_new w (.cells #[.int .i64 7, .bool t.kn, .string nm, .int .i64 sz, .bool t.en, .int .i64 la, .int .i64 su, .slice ha hn hc, .slice fa fn fc, .int .i64 (t.st : Int), .int .i64 (t.tm : Int), .int .i64 (D.P.p : Int), .int .i64 (t.tr : Int), .int .i64 100] 33)
  generalize hV1 : w.alloc (.cells #[.int .i64 7, .bool t.kn, .string nm, .int .i64 sz, .bool t.en, .int .i64 la, .int .i64 su, .slice ha hn hc, .slice fa fn fc, .int .i64 (t.st : Int), .int .i64 (t.tm : Int), .int .i64 (D.P.p : Int), .int .i64 (t.tr : Int), .int .i64 100] 33) = V1 at *
  have b2 := below_alloc V1 (.cells #[.int .i64 0, .bool false, .string { data := #[] }, .int .i64 0, .bool false, .int .i64 0, .int .i64 0, .slice none 0 0, .slice none 0 0, .int .i64 0, .int .i64 0, .int .i64 0, .int .i64 0, .int .i64 0] 33)
  have A2 := heap_alloc_new V1 (.cells #[.int .i64 0, .bool false, .string { data := #[] }, .int .i64 0, .bool false, .int .i64 0, .int .i64 0, .slice none 0 0, .slice none 0 0, .int .i64 0, .int .i64 0, .int .i64 0, .int .i64 0, .int .i64 0] 33)
  have A1' := row_below A1 b2
  have B2 := hid (b1.trans (b2.mono b1.size))
  have HM := hid (hM.below b1)
  have HT := hid hturn
  have Hhn := hid hhn
  have Hfn := hid hfn
  have hhn0 : hn ≤ 1000 := by omega
  have hfn0 : fn ≤ 1000 := by omega
  have hs1 := b1.size
  have hZ : w.heap.size ≤ V1.heap.size := hs1
  have hVs : w.heap.size < V1.heap.size := row_lt A1
  clear hM hturn b1 hhn hfn hT hlen htop
  go_enter Try.func22, Try.ntmps22
  refine wp_seq_k (fun K0 hK0 => ?_)
  go_wp2_with fail
  refine hK0.out _ _ ?_
  clear hV1
  generalize V1.alloc (.cells #[.int .i64 0, .bool false, .string { data := #[] }, .int .i64 0, .bool false, .int .i64 0, .int .i64 0, .slice none 0 0, .slice none 0 0, .int .i64 0, .int .i64 0, .int .i64 0, .int .i64 0, .int .i64 0] 33) = V2 at *
  have HM2 := hid (HM.out.below b2)
  clear b2 HM A1
  obtain ⟨Y, hY⟩ : ∃ Y, Y = w.heap.size := ⟨_, rfl⟩
  obtain ⟨Z, hZ'⟩ : ∃ Z, Z = V1.heap.size := ⟨_, rfl⟩
  rw [← hZ'] at A2 hZ hVs ⊢
  rw [← hY] at A1' ⊢
  have HY := hid hY
  clear hY hZ' hs1
  have hgv := hid (hgv0.out V2 (HM2.out.tkm Hhn.out Hfn.out))
  clear hgv0
  refine wp_seq_k (fun K1 hK1 => ?_)
  refine wp_seq_k (fun K2 hK2 => ?_)
  go_wp2_with (with_reducible refine wpList_load_row (o := ⟨some 9, _, _, _, _, _⟩) rfl 33 _ rfl Y rfl 33 _ _ _ A1' Try.underlying33 rfl (by kernel_rfl) ?_)
  refine hgv.out.mono ?_
  rintro e V3 ⟨rfl, hb⟩
  have HB3 := hid (B2.out.trans (hb.mono B2.out.size))
  have AY := row_below A1' hb
  have AZ := row_below A2 hb
  have HM3 := hid (HM2.out.below hb)
  clear hb hgv A1' A2 HM2 B2
  go_wp2_with fail
  refine hK2.out _ _ ?_
  refine wp_cond_false rfl ?_
  go_wp2_with fail
  refine hK1.out _ _ ?_
  refine wp_seq_k (fun K3 hK3 => ?_)
  go_wp2_with (with_reducible refine wpList_load_row (o := ⟨some 13, _, _, _, _, _⟩) rfl 33 _ rfl Y rfl 33 _ _ _ AY Try.underlying33 rfl (by kernel_rfl) ?_)
  refine hK3.out _ _ ?_
  obtain ⟨X, hX⟩ : ∃ X, X = V3.heap.size := ⟨_, rfl⟩
  rw [← hX]
  have b4 := below_alloc V3 (.cells #[.int .i64 7, .bool t.kn, .string nm, .int .i64 sz, .bool t.en, .int .i64 la, .int .i64 su, .slice ha hn hc, .slice fa fn fc, .int .i64 (t.st : Int), .int .i64 (t.tm : Int), .int .i64 (D.P.p : Int), .int .i64 (t.tr : Int), .int .i64 100, .slice none 0 0] 72)
  have A4 := heap_alloc_new V3 (.cells #[.int .i64 7, .bool t.kn, .string nm, .int .i64 sz, .bool t.en, .int .i64 la, .int .i64 su, .slice ha hn hc, .slice fa fn fc, .int .i64 (t.st : Int), .int .i64 (t.tm : Int), .int .i64 (D.P.p : Int), .int .i64 (t.tr : Int), .int .i64 100, .slice none 0 0] 72)
  rw [← hX] at A4
  have hYX : Y < X := by rw [hX]; exact row_lt AY
  have hZX : Z < X := by rw [hX]; exact row_lt AZ
  have hwX : w.heap.size ≤ X := by rw [hX]; exact HB3.out.size
  have AZ4 := row_below AZ b4
  have B4 := HB3.out.trans (b4.mono HB3.out.size)
  have HM4 := hid (HM3.out.below b4)
  generalize V3.alloc (.cells #[.int .i64 7, .bool t.kn, .string nm, .int .i64 sz, .bool t.en, .int .i64 la, .int .i64 su, .slice ha hn hc, .slice fa fn fc, .int .i64 (t.st : Int), .int .i64 (t.tm : Int), .int .i64 (D.P.p : Int), .int .i64 (t.tr : Int), .int .i64 100, .slice none 0 0] 72) = V4 at *
  clear b4 AY AZ hX HM3 HB3
  refine wp_seq_k (fun K4 hK4 => ?_)
  have hdr := (Below.refl V4.heap.size V4).drew
  have A5 := row_below A4 hdr
  have AZ5 := hid (row_below AZ4 hdr)
  have B5 := hid (B4.trans (hdr.mono B4.size))
  have HM5 := hid (HM4.out.below hdr)
  clear hdr A4 AZ4 B4 HM4
  refine wp_region_late [17, 21] [7, 13, 17, 21] [(false, [0, 1, 2, 3, 4, 5, 8, 9, 10, 11]), (true, [6, 12, 7, 13]), (false, [14, 15, 16, 17, 18, 19, 20, 21])] Ext (fun _ _ => True) Ext.refl Ext.trans (fun _ => trivial) (fun _ _ _ _ _ => trivial) (fun _ _ _ => trivial) (by kernel_rfl) (by kernel_rfl) ?_
  simp only [wpPh, List.map_cons, List.map_nil, List.contains_cons, List.contains_nil, List.getD_cons_zero, List.getD_cons_succ, Nat.reduceBEq, Bool.or_false, Bool.or_true]
  generalize V4.drew = U at *
  have f7 : ∀ w', Ext U w' → w'.cell? ⟨X, 7, none⟩ = some (.slice ha hn hc) := fun w' hb => by rw [cell_of_row _ _ _ _ _ _ (row_below A5 hb)]; rfl
  have f8 : ∀ w', Ext U w' → w'.cell? ⟨X, 8, none⟩ = some (.slice fa fn fc) := fun w' hb => by rw [cell_of_row _ _ _ _ _ _ (row_below A5 hb)]; rfl
  iterate 10 (refine wpL_do rfl (fun w' hw' => (by go_simp; rfl)) ?_; simp only [Act.put, List.setIfInBounds_toArray, List.set_cons_succ, List.set_cons_zero])
  refine wpL_nil ?_
  iterate 2 (refine wpL_do rfl (fun w' hw' => (by go_simp; rfl)) ?_; simp only [Act.put, List.setIfInBounds_toArray, List.set_cons_succ, List.set_cons_zero])
  clear f7 f8
  have hcl := hid (cloneS ha hn hc t.hv U (by rw [Hhn.out]; exact HM5.out.h) (Nat.le_trans hhn0 (by decide)))
  refine wpL_call rfl (fun K hK => ?_)
  go_wp2_with fail
  refine hcl.out.mono ?_
  rintro e U6 ⟨ha', hc', rfl, ho, hb⟩
  refine hK _ _ hb ?_
  clear hK K hcl
  try simp only [Act.put, List.setIfInBounds_toArray, List.set_cons_succ, List.set_cons_zero]
  have A6 := row_below A5 hb
  have AZ6 := hid (row_below AZ5.out hb)
  have HM6 := hid (HM5.out.below hb)
  have HO6 := hid (ownsRow_mono ho B5.out.size)
  have B6 := hid (B5.out.trans (hb.mono B5.out.size))
  clear A5 AZ5 HM5 B5 hb ho
  have hcl := hid (cloneB fa fn fc (fileT D.fl t.hv) U6 (by rw [Hfn.out]; exact HM6.out.f.rd) (Nat.le_trans hfn0 (by decide)))
  refine wpL_call rfl (fun K hK => ?_)
  go_wp2_with fail
  refine hcl.out.mono ?_
  rintro e U7 ⟨fa', fc', rfl, ho, hb⟩
  refine hK _ _ hb ?_
  clear hK K hcl
  try simp only [Act.put, List.setIfInBounds_toArray, List.set_cons_succ, List.set_cons_zero]
  try refine wpL_nil ?_
  have A7 := row_below A6 hb
  have AZ7 := hid (row_below AZ6.out hb)
  have HO7 := hid (ownsRow_below HO6.out hb)
  have HS7 := hid (ownsRow_mono ho B6.out.size)
  have B7 := hid (B6.out.trans (hb.mono B6.out.size))
  clear A6 AZ6 HM6 B6 HO6 hb ho
  have c7 : U7.cell? ⟨X, 7, none⟩ = some (.slice ha hn hc) := by rw [cell_of_row _ _ _ _ _ _ A7]; rfl
  have fz7 := frozen_row A7 7
  obtain ⟨m1, m2⟩ := set_row (cs' := #[.int .i64 7, .bool t.kn, .string nm, .int .i64 sz, .bool t.en, .int .i64 la, .int .i64 su, .slice ha' hn hc', .slice fa fn fc, .int .i64 (t.st : Int), .int .i64 (t.tm : Int), .int .i64 (D.P.p : Int), .int .i64 (t.tr : Int), .int .i64 100, .slice none 0 0]) A7 7 (.slice ha' hn hc') rfl
  have AZ8 := hid (row_grown AZ7.out m2 (fun e => by rw [e] at hZX; exact Nat.lt_irrefl _ hZX))
  have HO8 := hid (row_kept_own A7 HO7.out m2 (by decide))
  have HS8 := hid (row_kept_own A7 HS7.out m2 (by decide))
  have B8 := hid (B7.out.grown m2 B7.out.size (fun k e => by cases e; exact hwX))
  have A8 := hid m2
  clear m2 AZ7 HO7 HS7 B7
  iterate 3 (refine wpL_do rfl (fun w' hw' => (by go_simp; rfl)) ?_; simp only [Act.put, List.setIfInBounds_toArray, List.set_cons_succ, List.set_cons_zero])
  refine wpL_call rfl (fun K hK => ?_)
  go_wp2_with fail
  refine hK _ _ trivial ?_
  clear hK K c7 fz7 A7
  try simp only [Act.put, List.setIfInBounds_toArray, List.set_cons_succ, List.set_cons_zero]
  generalize U7.setCell ⟨X, 7, none⟩ (.slice ha' hn hc') = U8 at *
  have c8 : U8.cell? ⟨X, 8, none⟩ = some (.slice fa fn fc) := by rw [cell_of_row _ _ _ _ _ _ m1]; rfl
  have fz8 := frozen_row m1 8
  obtain ⟨k1, k2⟩ := set_row (cs' := #[.int .i64 7, .bool t.kn, .string nm, .int .i64 sz, .bool t.en, .int .i64 la, .int .i64 su, .slice ha' hn hc', .slice fa' fn fc', .int .i64 (t.st : Int), .int .i64 (t.tm : Int), .int .i64 (D.P.p : Int), .int .i64 (t.tr : Int), .int .i64 100, .slice none 0 0]) m1 8 (.slice fa' fn fc') rfl
  have AZ9 := hid (row_grown AZ8.out k2 (fun e => by rw [e] at hZX; exact Nat.lt_irrefl _ hZX))
  have HO9 := hid (row_kept_own m1 HO8.out k2 (by decide))
  have HS9 := hid (row_kept_own m1 HS8.out k2 (by decide))
  have B9 := hid (B8.out.grown k2 B8.out.size (fun k e => by cases e; exact hwX))
  have A9 := hid k1
  clear k1 k2 AZ8 HO8 HS8 B8 A8
  iterate 3 (refine wpL_do rfl (fun w' hw' => (by go_simp; rfl)) ?_; simp only [Act.put, List.setIfInBounds_toArray, List.set_cons_succ, List.set_cons_zero])
  refine wpL_call rfl (fun K hK => ?_)
  go_wp2_with fail
  refine hK _ _ trivial ?_
  clear hK K c8 fz8 m1
  try simp only [Act.put, List.setIfInBounds_toArray, List.set_cons_succ, List.set_cons_zero]
  try refine wpL_nil ?_
  generalize U8.setCell ⟨X, 8, none⟩ (.slice fa' fn fc') = U9 at *
  refine hK4.out _ _ ?_
  have hgw := hid (show TW D U9 X w.heap.size t ⟨ha', hc', fa', fc', none, 0⟩ [] from ⟨by rw [show ([] : List NV).length = 0 from rfl, HTw.out, ← Hhn.out, ← Hfn.out]; exact A9.out, by rw [← Hfn.out]; exact RdT.ofOwn HS9.out, by rw [← Hhn.out]; exact RdS.ofOwn HO9.out, ⟨rfl, .inl ⟨rfl, rfl⟩⟩, fun v hv => (by cases hv)⟩)
  have htn := hid (HT.out X ⟨ha', hc', fa', fc', none, 0⟩ U9 hwX B9.out hgw.out rfl)
  clear HO9 HS9 A9 hgw HT
  refine wp_seq_k (fun K5 hK5 => ?_)
  go_wp2_with fail
  refine htn.out.mono ?_
  intro e W hs'
  obtain ⟨rfl, ⟨A, vs, hg2, hks⟩, hsw⟩ := hs'
  rw [List.nil_append] at hg2
  have HG := hid hg2
  have HK := hid hks
  have AZ10 := hid (hsw.st 33 (by decide) (by decide) _ _ AZ9.out)
  have B10 := hid (B9.out.trans hsw.blw)
  clear hg2 hks hsw htn AZ9 B9
  go_wp2_with fail
  refine hK5.out _ _ ?_
  have hdr := (Below.refl W.heap.size W).drew
  have HG4 := hid (HG.out.below hdr)
  have AZ13 := row_below AZ10.out hdr
  have B13 := hid (B10.out.trans (hdr.mono B10.out.size))
  clear hdr HG AZ10 B10
  refine wp_seq_k (fun K7 hK7 => ?_)
  refine wp_region_can_all [9] [0, 1, 2, 3, 4, 5, 6, 7, 8, 9, 10, 11] (fun u u' => u'.heap[X]? = u.heap[X]?) (fun _ => rfl) (fun _ _ _ h k => k.trans h) (by kernel_rfl) (by kernel_rfl) ?_
  simp only [List.map_cons, List.map_nil, List.contains_cons, List.contains_nil, List.getD_cons_zero, List.getD_cons_succ, Nat.reduceBEq, Bool.or_false]
  generalize W.drew = W4 at *
  have f14 : ∀ w' : World, w'.heap[X]? = W4.heap[X]? → w'.cell? ⟨X, 14, none⟩ = some (.slice A.oa vs.length A.oc) := fun w' hb => by rw [cell_of_row _ _ _ _ _ _ (hb.trans HG4.out.bx)]; rfl
  obtain ⟨tc, htc⟩ : ∃ tc, tc = tcells D t' A.ha t'.hv.length A.hc A.fa (topH t'.hv) A.fc := ⟨_, rfl⟩
  have fld : ∀ w' : World, w'.heap[X]? = W4.heap[X]? → (Instr.loadAt 33 (.pointer (some ⟨X, 0, none⟩))).run Try.prog w' = .ok (.agg tc) w' := fun w' hb => by
    rw [htc]
    exact run_loadAt_mid w' X 0 33 (tcells D t' A.ha t'.hv.length A.hc A.fa (topH t'.hv) A.fc).toList _ (range_row (a := []) (z := [.slice A.oa vs.length A.oc]) (e := 72) (by rw [hb]; exact HG4.out.bx)) Try.underlying33 rfl (by kernel_rfl)
  have hone : tc.all (fun x => x.oneCell') = true := by rw [htc]; unfold tcells; simp [Value.oneCell']
  have hsz14 : tc.size = 14 := by rw [htc]; rfl
  have Htc := hid htc
  clear htc
  iterate 3 (refine wpL_do rfl (fun w' hw' => (by go_simp; rfl)) ?_; simp only [Act.put, List.setIfInBounds_toArray, List.set_cons_succ, List.set_cons_zero])
  refine wpL_load 33 _ ⟨X, 0, none⟩ _ rfl rfl rfl fld ?_
  simp only [Act.put, List.setIfInBounds_toArray, List.set_cons_succ, List.set_cons_zero]
  iterate 5 (refine wpL_do rfl (fun w' hw' => (by go_simp; rfl)) ?_; simp only [Act.put, List.setIfInBounds_toArray, List.set_cons_succ, List.set_cons_zero])
  clear f14 fld
  obtain ⟨m1, m2⟩ := set_whole (cs' := tc) AZ13
  have hXk : (W4.setRow Z tc).heap[X]? = W4.heap[X]? := (row_grown HG4.out.bx m2 (fun e => by rw [e] at hZX; exact Nat.lt_irrefl _ hZX)).trans HG4.out.bx.symm
  have s5 := Stays.ofSet m2 AZ13 (T := 5) (by decide)
  have s84 := Stays.ofSet m2 AZ13 (T := 84) (by decide)
  have HF := hid (HG4.out.f.stays s5)
  have HA := hid (HG4.out.h.stays s84)
  have HO := hid (row_kept_own AZ13 HG4.out.ow m2 (by decide))
  have HN := hid (fun v hv => (HG4.out.ns v hv).stays s5 s84)
  have B14 := hid (B13.out.grown m2 B13.out.size (fun k e => by cases e; exact hZ))
  have HM1 := hid m1
  refine wpL_call rfl (fun K hK => ?_)
  refine wp_store_row 33 _ _ rfl Z tc rfl rfl 33 _ AZ13 (by rw [hsz14]; rfl) (by rw [hsz14]; rfl) hone ?_
  refine hK _ _ hXk ?_
  clear hK K m1 m2 s5 s84 AZ13 hXk HG4 B13 hone hsz14
  try simp only [Act.put]
  generalize W4.setRow Z _ = W5 at *
  iterate 2 (refine wpL_do rfl (fun w' hw' => (by go_simp; rfl)) ?_; simp only [Act.put, List.setIfInBounds_toArray, List.set_cons_succ, List.set_cons_zero])
  refine wpL_nil ?_
  refine hK7.out _ _ ?_
  have hm1 := HM1.out
  rw [Htc.out] at hm1
  go_wp2_with fail
  refine bodyPost_ret (results_c2 (fn := Try.f22) rfl _ W5 Z 33 _ _ rfl hm1 (by kernel_rfl) (by kernel_rfl)) rfl ?_
  exact ⟨⟨_, _, _, _, _, _, vs, rfl, ⟨HF.out, HA.out⟩, ⟨HO.out, HN.out⟩, HK.out⟩, B14.out⟩
end Go.Proofs.Ytopmamgdfngdoaa
