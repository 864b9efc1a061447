/- deliver: Give. -/
import Derived.Test.YtopmamgdfngdoaaWhole11
namespace Go.Proofs.Ytopmamgdfngdoaa
set_option linter.unusedVariables false
open Go.RowKit

set_option maxRecDepth 1000000 in
set_option maxHeartbeats 8000000 in
theorem Give_ok (D : DP) (hD : DOk D) (hSum : SumOk D) (g : GS) (fa : Option Addr) (fc : Nat) (aa : Option Addr) (ac : Nat) (w : World) (hG : GI D.P g) (htr : g.tr < 100) (hM : GvT D w g fa fc aa ac) :
    Calls Try.prog 11 #[.agg (gcells D g fa D.P.F fc aa g.ag.length ac)] w fun e w' => GiveR D w w' (giveG D.P g).1 (giveG D.P g).2 e := by
  have hgi := (hG.give hD.P.m hD.P.p htr).1
  have b1 := below_alloc w (.cells (gcells D g fa D.P.F fc aa g.ag.length ac) 28)
  have A1 := heap_alloc_new w (.cells (gcells D g fa D.P.F fc aa g.ag.length ac) 28)
  generalize hV1 : w.alloc (.cells (gcells D g fa D.P.F fc aa g.ag.length ac) 28) = V1 at *
  have b2 := below_alloc V1 (.cells #[.int .i64 0, .string { data := #[] }, .slice none 0 0, .int .i64 0, .int .i64 0, .int .i64 0, .bool false, .int .i64 0, .slice none 0 0, .int .i64 0, .int .i64 0, .int .i64 0, .int .i64 0] 28)
  have A2 := heap_alloc_new V1 (.cells #[.int .i64 0, .string { data := #[] }, .slice none 0 0, .int .i64 0, .int .i64 0, .int .i64 0, .bool false, .int .i64 0, .slice none 0 0, .int .i64 0, .int .i64 0, .int .i64 0, .int .i64 0] 28)
  have A1' := row_below A1 b2
  have B2 := hid (b1.trans (b2.mono b1.size))
  have HM := hid (hM.below b1)
  have hs1 := b1.size
  have hZ : w.heap.size ≤ V1.heap.size := hs1
  clear hM b1
  obtain ⟨gc, hgc⟩ : ∃ gc, gc = gcells D g fa D.P.F fc aa g.ag.length ac := ⟨_, rfl⟩
  unfold gcells at A1 A1' hV1 hgc
  go_enter Try.func11, Try.ntmps11
  unfold gcells
  refine wp_seq_k (fun K0 hK0 => ?_)
  go_wp2_with fail
  refine hK0.out _ _ ?_
  clear hV1
  generalize V1.alloc (.cells #[.int .i64 0, .string { data := #[] }, .slice none 0 0, .int .i64 0, .int .i64 0, .int .i64 0, .bool false, .int .i64 0, .slice none 0 0, .int .i64 0, .int .i64 0, .int .i64 0, .int .i64 0] 28) = V2 at *
  have HM2 := hid (HM.out.below b2)
  clear b2 HM A1
  obtain ⟨Y, hY⟩ : ∃ Y, Y = w.heap.size := ⟨_, rfl⟩
  obtain ⟨Z, hZ'⟩ : ∃ Z, Z = V1.heap.size := ⟨_, rfl⟩
  rw [← hZ'] at A2 hZ ⊢
  rw [← hY] at A1' ⊢
  have HY := hid hY
  clear hY hZ' hs1
  have htn := hid (fun (X : Nat) (A : GA) (W : World) (h1 : V2.heap.size ≤ X) (h2 : GW D W X V2.heap.size g A []) => give_ok D hD hSum X V2.heap.size g A W h1 h2 hG (fun _ => htr))
  have hgv := hid (giving19 D hD g _ _ fa fc aa ac V2 hG HM2.out (fun X A W h1 _ h2 _ => htn.out X A W h1 h2) hgi.len)
  unfold gcells at hgv
  refine wp_seq_k (fun K1 hK1 => ?_)
  go_wp2_with (with_reducible refine wpList_load_row (o := ⟨some 5, _, _, _, _, _⟩) rfl 28 _ rfl Y rfl 28 _ _ _ A1' Try.underlying28 rfl (by kernel_rfl) ?_)
  refine hgv.out.mono ?_
  intro e V3 hr
  obtain ⟨⟨fa', fc', aa', ac', oa, oc, vs, rfl, hm, hn, hk, hng⟩, hb⟩ := hr
  have AZ := row_below A2 hb
  have B3 := hid (B2.out.trans (hb.mono B2.out.size))
  have HN := hid (show NRow D V3 w.heap.size oa oc vs from ⟨ownsRow_mono hn.ow B2.out.size, hn.ns⟩)
  have HMr := hid hm
  have HK := hid hk
  have HNG := hid hng
  clear hm hn hk hng hb hgv htn A1' A2 HM2 B2
  obtain ⟨m1, m2⟩ := set_whole (cs' := gcells D (giveG D.P g).1 fa' D.P.F fc' aa' (giveG D.P g).1.ag.length ac') AZ
  have s5 := Stays.ofSet m2 AZ (T := 5) (by decide)
  have s84 := Stays.ofSet m2 AZ (T := 84) (by decide)
  have HF := hid (HMr.out.stays s5 s84)
  have HO := hid (show NRow D _ w.heap.size oa oc vs from ⟨row_kept_own AZ HN.out.ow m2 (by decide), fun v hv => (HN.out.ns v hv).stays s5 s84⟩)
  have B14 := hid (B3.out.grown m2 B3.out.size (fun k e => by cases e; exact hZ))
  have HM1 := hid m1
  clear m1 m2 s5 s84 HN HMr B3
  go_wp2_with (with_reducible refine at_store 28 ?_)
  unfold Hid
  refine wpList_store_row rfl 28 _ _ rfl Z (gcells D (giveG D.P g).1 fa' D.P.F fc' aa' (giveG D.P g).1.ag.length ac') rfl rfl 28 _ AZ (by kernel_rfl) rfl (by unfold gcells; simp [Value.oneCell']) ?_
  clear AZ
  generalize V3.setRow Z _ = V4 at *
  go_wp2_with fail
  refine hK1.out _ _ ?_
  go_wp2_with fail
  refine bodyPost_ret (results_c2 (fn := Try.f11) rfl _ V4 Z 28 _ _ rfl HM1.out (by kernel_rfl) (by kernel_rfl)) rfl ?_
  exact ⟨⟨_, _, _, _, _, _, vs, rfl, HF.out, HO.out, HK.out, HNG.out⟩, B14.out⟩
end Go.Proofs.Ytopmamgdfngdoaa
/- deliver: a giver at work: it is told that all is there. -/
namespace Go.Proofs.Ytopmamgdfngdoaa
set_option linter.unusedVariables false
open Go.RowKit

set_option maxRecDepth 1000000 in
set_option maxHeartbeats 8000000 in
theorem ended_ok (D : DP) (X B : Nat) (g : GS) (A : GA) (o : List NV) (w : World) (hB : B ≤ X) (h : GW D w X B g A o) (hn : o.length ≤ 100000) :
    Calls Try.prog 34 #[.pointer (some ⟨X, 0, none⟩), .int .i64 0] w fun e w' => GwR D w w' X B (replyG D.P g .nd).1 (replyG D.P g .nd).2 e o (.tuple #[]) := by
  have H := hid h
  have hs := hid (say57_ok D X B (gwc D g A g.ag.length o.length) o ⟨.sd, none, 0⟩ A.oa A.oc w hB h.bx rfl rfl h.ow hn)
  clear h
  go_enter Try.func34, Try.ntmps34
  refine wp_seq_k (fun K0 hK0 => ?_)
  go_wp2_with fail
  refine (Calls.mono hs.out ?_)
  intro e U hs'
  have he := hs'.he
  subst he
  obtain ⟨oa', oc', k1, k2⟩ := H.out.said (v := ⟨.sd, none, 0⟩) trivial (fun l h => by cases h) hs'
  have H1 := hid k1
  have S1 := hid k2
  clear hs' hs k1 k2 H
  go_wp2_with fail
  refine hK0.out _ _ ?_
  have c5 : U.cell? ⟨X, 5, none⟩ = some (.int .i64 (g.st : Int)) := by rw [cell_of_row _ _ _ _ _ _ H1.out.bx]; rfl
  refine wp_seq_k (fun K1 hK1 => ?_)
  refine wp_seq_k (fun K2 hK2 => ?_)
  by_cases h3 : g.st = 3
  · have d1 : ((g.st : Int) == 3) = true := by rw [h3]; rfl
    have Ew : Hid (replyG D.P g .nd = (g, [.sd])) := hid (by unfold replyG; dsimp only; rw [if_pos h3])
    go_wp2_with fail
    refine hK2.out _ _ ?_
    refine wp_cond_true rfl ?_
    clear d1 c5
    go_wp2_with fail
    refine bodyPost_ret (v := .tuple #[]) (by simp [results, Try.results34, go_sem]) rfl ?_
    rw [Ew.out]
    exact ⟨rfl, ⟨_, [⟨.sd, none, 0⟩], H1.out, rfl⟩, S1.out⟩
  · have d1 : ((g.st : Int) == 3) = false := by
      rw [beq_eq_false_iff_ne]
      exact fun e => h3 (by exact_mod_cast e)
    have Ew : Hid (replyG D.P g .nd = ({ g with st := 3, fi := false, pos := D.P.F, ag := [] }, [.sd])) := hid (by unfold replyG; dsimp only; rw [if_neg h3])
    go_wp2_with fail
    refine hK2.out _ _ ?_
    refine wp_cond_false rfl ?_
    clear d1
    go_wp2_with fail
    refine hK1.out _ _ ?_
    have fz5 := frozen_row H1.out.bx 5
    obtain ⟨m1, m2⟩ := set_row (cs' := gwc D { g with st := 3 } { A with oa := oa', oc := oc' } g.ag.length (o ++ [(⟨.sd, none, 0⟩ : NV)]).length) H1.out.bx 5 (.int .i64 3) rfl
    have H2 := hid (H1.out.set (g' := { g with st := 3 }) (A' := { A with oa := oa', oc := oc' }) m2 m1 rfl rfl rfl rfl H1.out.a)
    have S2 := hid (S1.out.set hB H1.out.bx m2)
    clear m1 m2 H1 S1
    refine wp_seq_k (fun K3 hK3 => ?_)
    go_wp2_with fail
    refine hK3.out _ _ ?_
    clear c5 fz5
    generalize U.setCell ⟨X, 5, none⟩ (.int .i64 3) = V at *
    refine wp_seq_k (fun K4 hK4 => ?_)
    refine wp_seq_k (fun K5 hK5 => ?_)
    go_wp2_with fail
    refine hK5.out _ _ ?_
    refine wp_cond_false rfl ?_
    go_wp2_with fail
    refine hK4.out _ _ ?_
    have c2 : V.cell? ⟨X, 2, none⟩ = some (.slice A.fa D.P.F A.fc) := by rw [cell_of_row _ _ _ _ _ _ H2.out.bx]; rfl
    have c6 : V.cell? ⟨X, 6, none⟩ = some (.bool g.fi) := by rw [cell_of_row _ _ _ _ _ _ H2.out.bx]; rfl
    have fz6 := frozen_row H2.out.bx 6
    obtain ⟨m1, m2⟩ := set_row (cs' := gwc D { g with st := 3, fi := false } { A with oa := oa', oc := oc' } g.ag.length (o ++ [(⟨.sd, none, 0⟩ : NV)]).length) H2.out.bx 6 (.bool false) rfl
    have H3 := hid (H2.out.set (g' := { g with st := 3, fi := false }) (A' := { A with oa := oa', oc := oc' }) m2 m1 rfl rfl rfl rfl H2.out.a)
    have S3 := hid (S2.out.set hB H2.out.bx m2)
    clear m1 m2 H2 S2
    have c7 : (V.setCell ⟨X, 6, none⟩ (.bool false)).cell? ⟨X, 7, none⟩ = some (.int .i64 (g.pos : Int)) := by rw [cell_of_row _ _ _ _ _ _ H3.out.bx]; rfl
    have fz7 := frozen_row H3.out.bx 7
    obtain ⟨m1, m2⟩ := H3.out.num (g' := { g with st := 3, fi := false, pos := D.P.F }) hB 7 (.int .i64 (D.P.F : Int)) rfl (by rfl)
    have H4 := hid m1
    have S4 := hid (S3.out.trans m2)
    clear m1 m2 H3 S3
    have c8 : ((V.setCell ⟨X, 6, none⟩ (.bool false)).setCell ⟨X, 7, none⟩ (.int .i64 (D.P.F : Int))).cell? ⟨X, 8, none⟩ = some (.slice A.aa g.ag.length A.ac) := by rw [cell_of_row _ _ _ _ _ _ H4.out.bx]; rfl
    have fz8 := frozen_row H4.out.bx 8
    obtain ⟨m1, m2⟩ := set_row (cs' := gwc D { g with st := 3, fi := false, pos := D.P.F, ag := [] } { A with aa := none, ac := 0, oa := oa', oc := oc' } 0 (o ++ [(⟨.sd, none, 0⟩ : NV)]).length) H4.out.bx 8 (.slice none 0 0) rfl
    have H5 := hid (H4.out.set (g' := { g with st := 3, fi := false, pos := D.P.F, ag := [] }) (A' := { A with aa := none, ac := 0, oa := oa', oc := oc' }) m2 m1 rfl rfl rfl rfl (.inl ⟨rfl, rfl⟩))
    have S5 := hid (S4.out.set hB H4.out.bx m2)
    clear m1 m2 H4 S4
    go_wp2_with fail
    go_end0
    rw [Ew.out]
    exact ⟨rfl, ⟨_, [⟨.sd, none, 0⟩], H5.out, rfl⟩, S5.out⟩
end Go.Proofs.Ytopmamgdfngdoaa
/- deliver: a giver at work: it is asked for what is missing. -/
namespace Go.Proofs.Ytopmamgdfngdoaa
set_option linter.unusedVariables false
open Go.RowKit

def askedS (F : Nat) (ag : List Sp) (s : Sp) : List Sp := if ag.length < 1000 ∧ (s = (0, 0) ∨ s.1 < min s.2 F) then ag ++ [(s.1, min s.2 F)] else ag
theorem askedG_snoc (F : Nat) (s : Sp) : ∀ (l ag : List Sp), askedG F ag (l ++ [s]) = askedS F (askedG F ag l) s
  | [], ag => rfl
  | x :: r, ag => by
    rw [List.cons_append]
    unfold askedG
    exact askedG_snoc F s r _
theorem askedG_len (F : Nat) : ∀ (l ag : List Sp), ag.length ≤ 1000 → (askedG F ag l).length ≤ 1000
  | [], ag, h => h
  | x :: r, ag, h => by
    unfold askedG
    refine askedG_len F r _ ?_
    split
    · rename_i hc
      rw [List.length_append]
      have := hc.1
      show ag.length + 1 ≤ 1000
      omega
    · exact h
theorem fr56 (y : Nat → Value) : fr 56 y = #[y 0, y 1, y 2, y 3, y 4, y 5, y 6, y 7, y 8, y 9, y 10, y 11, y 12, y 13, y 14, y 15, y 16, y 17, y 18, y 19, y 20, y 21, y 22, y 23, y 24, y 25, y 26, y 27, y 28, y 29, y 30, y 31, y 32, y 33, y 34, y 35, y 36, y 37, y 38, y 39, y 40, y 41, y 42, y 43, y 44, y 45, y 46, y 47, y 48, y 49, y 50, y 51, y 52, y 53, y 54, y 55] := rfl
/-- a box of two numbers is written over -/
theorem GW.write84 {D : DP} {W W' : World} {X B P : Nat} {g : GS} {A : GA} {o : List NV} {cs : Array Value} (h : GW D W X B g A o) (hr : W.ownsRow B 84 2 (.slice A.aa g.ag.length A.ac) g.ag.length (spv g.ag)) (hP : W.heap[P]? = some (.cells cs 84)) (hne : ∀ k, (Value.slice A.aa g.ag.length A.ac).ownBlock = some k → k ≠ P) (hg : W.grownBy W' (some P)) :
    GW D W' X B g A o ∧ W'.ownsRow B 84 2 (.slice A.aa g.ag.length A.ac) g.ag.length (spv g.ag) := by
  have s5 : Stays 5 W W' := Stays.ofSet hg hP (by decide)
  have hX : X ≠ P := fun e => by
    subst e
    have := h.bx
    rw [hP] at this
    injection this with this
    injection this with _ h3
    cases h3
  have hr' := hr.kept hg (.inr (fun e => hne _ e rfl))
  exact ⟨⟨row_grown h.bx hg hX, h.f.stays s5, OwnS.ofOwn hr', row_kept_own hP h.ow hg (by decide), fun v hv => (h.ns v hv).stays5 s5 (h.nog v hv), h.nog⟩, hr'⟩
structure AkP (D : DP) (X B P x y : Nat) (mt : Bool) (g : GS) (A : GA) (o : List NV) (w : World) : Prop where
  gw : GW D w X B g A o
  row : w.ownsRow B 84 2 (.slice A.aa g.ag.length A.ac) g.ag.length (spv g.ag)
  p : w.heap[P]? = some (.cells #[.int .i64 (x : Int), .int .i64 (y : Int)] 84)
  hP : B ≤ P
  ne : ∀ k, (Value.slice A.aa g.ag.length A.ac).ownBlock = some k → k ≠ P
  mt : (mt = true ∧ x = 0 ∧ y = 0) ∨ (mt = false ∧ x < y)
  yF : y ≤ D.P.F
  len : g.ag.length ≤ 1000
set_option maxRecDepth 1000000 in
set_option maxHeartbeats 8000000 in
theorem ask_put (D : DP) (X B P x y : Nat) (g : GS) (A : GA) (o : List NV) (hB : B ≤ X) :
    Tri Try.prog 56 (pieceOf Try.f35 [1, 0, 0, 1, 1, 0, 0, 1, 1, 1, 1, 0]) (fun z w => z 0 = .pointer (some ⟨X, 0, none⟩) ∧ z 5 = .pointer (some ⟨P, 0, none⟩) ∧ GW D w X B g A o ∧ w.ownsRow B 84 2 (.slice A.aa g.ag.length A.ac) g.ag.length (spv g.ag) ∧ w.heap[P]? = some (.cells #[.int .i64 (x : Int), .int .i64 (y : Int)] 84) ∧ (∀ k, (Value.slice A.aa g.ag.length A.ac).ownBlock = some k → k ≠ P) ∧ g.ag.length ≤ 1000)
      (fun z w z' w' => z' 0 = z 0 ∧ z' 7 = z 7 ∧ z' 8 = z 8 ∧ z' 9 = z 9 ∧ (∃ A', GW D w' X B { g with ag := g.ag ++ [(x, y)] } A' o ∧ w'.ownsRow B 84 2 (.slice A'.aa (g.ag ++ [(x, y)]).length A'.ac) (g.ag ++ [(x, y)]).length (spv (g.ag ++ [(x, y)]))) ∧ GwS w w' B) := by
  obtain ⟨i0, hi, hz0, hz1, hz2⟩ := info_parts Try.info84
  rintro Q z w ⟨s0, s5, h, hr, hp, hne, hlen⟩ hQ
  have HQ := hid hQ
  clear hQ
  have hdr := (Below.refl w.heap.size w).drew
  have G := hid (h.below hdr)
  have R := hid (ownsRow_below hr hdr)
  have S := hid ((GwS.refl w B).below (h.lt hB) hdr)
  have AP := hid (row_below hp hdr)
  have NE := hid hne
  clear h hr hp hne hdr
  conv => arg 2; whnf
  rw [fr56]
  simp only [s0, s5]
  refine wp_region_can 12 [7, 8] [0, 1, 2, 3, 4, 5, 6, 7, 8, 9, 10, 11] (fun u u' => u'.heap[P]? = u.heap[P]? ∧ u'.heap[X]? = u.heap[X]?) (fun _ => ⟨rfl, rfl⟩) (fun _ _ _ h k => ⟨k.1.trans h.1, k.2.trans h.2⟩) (by kernel_rfl) (by kernel_rfl) ?_
  simp only [List.map_cons, List.map_nil, List.contains_cons, List.contains_nil, List.getD_cons_zero, List.getD_cons_succ, Nat.reduceBEq, Bool.or_false, Bool.or_true]
  generalize w.drew = U at *
  have x8 : ∀ w' : World, (w'.heap[P]? = U.heap[P]? ∧ w'.heap[X]? = U.heap[X]?) → w'.cell? ⟨X, 8, none⟩ = some (.slice A.aa g.ag.length A.ac) := fun w' h => by rw [cell_of_row _ _ _ _ _ _ (h.2.trans G.out.bx)]; rfl
  have y0 : ∀ w' : World, (w'.heap[P]? = U.heap[P]? ∧ w'.heap[X]? = U.heap[X]?) → w'.cell? ⟨P, 0, none⟩ = some (.int .i64 (x : Int)) := fun w' h => by rw [cell_of_row _ _ _ _ _ _ (h.1.trans AP.out)]; rfl
  have y1 : ∀ w' : World, (w'.heap[P]? = U.heap[P]? ∧ w'.heap[X]? = U.heap[X]?) → w'.cell? ⟨P, 1, none⟩ = some (.int .i64 (y : Int)) := fun w' h => by rw [cell_of_row _ _ _ _ _ _ (h.1.trans AP.out)]; rfl
  iterate 7 (refine wpL_do rfl (fun w' hw' => (by go_simp; rfl)) ?_; simp only [Act.put, List.setIfInBounds_toArray, List.set_cons_succ, List.set_cons_zero])
  clear y0 y1 x8
  have hXU := row_lt G.out.bx
  have hPU := row_lt AP.out
  have b3 := below_alloc U (.cells #[.int .i64 (x : Int), .int .i64 (y : Int)] 84)
  refine wpL_call rfl (fun K hK => ?_)
  go_wp2_with fail
  refine hK _ _ ⟨b3.block _ hPU, b3.block _ hXU⟩ ?_
  clear hK K
  try simp only [Act.put, List.setIfInBounds_toArray, List.set_cons_succ, List.set_cons_zero]
  have hnew : ∀ (j : Nat) (u : Value), ([.int .i64 (x : Int), .int .i64 (y : Int)] : List Value)[j]? = some u → (U.alloc (.cells #[.int .i64 (x : Int), .int .i64 (y : Int)] 84)).cell? ((⟨U.heap.size, 0, none⟩ : Addr).add j) = some u := new_cells U [.int .i64 (x : Int), .int .i64 (y : Int)] 84
  have G3 := hid (G.out.below b3)
  have R3 := hid (ownsRow_below R.out b3)
  have S3 := hid (S.out.below (G.out.lt hB) b3)
  have AP3 := hid (row_below AP.out b3)
  have hUn := heap_alloc_new U (.cells #[.int .i64 (x : Int), .int .i64 (y : Int)] 84)
  obtain ⟨Z, hZ⟩ : ∃ Z, Z = U.heap.size := ⟨_, rfl⟩
  rw [← hZ] at hnew hUn ⊢
  have hPU3 : P < (U.alloc (.cells #[.int .i64 (x : Int), .int .i64 (y : Int)] 84)).heap.size := row_lt AP3.out
  have hXU3 : X < (U.alloc (.cells #[.int .i64 (x : Int), .int .i64 (y : Int)] 84)).heap.size := row_lt G3.out.bx
  clear hZ b3 G R S AP hXU hPU
  generalize U.alloc (.cells #[.int .i64 (x : Int), .int .i64 (y : Int)] 84) = U3 at *
  have hB3 : B ≤ U3.heap.size := by omega
  have hXn : (Value.slice A.aa g.ag.length A.ac).ownBlock = none ∨ (Value.slice A.aa g.ag.length A.ac).ownBlock ≠ some X := own_ne R3.out G3.out.bx (by decide)
  refine wpL_call rfl (fun K hK => ?_)
  refine wp_append_own _ (.tmp 48) (.tmp 50) 26 rfl B 84 i0 _ 2 16 Try.underlying26 hi hz0 hz1 hz2 rfl (by decide) (.slice A.aa g.ag.length A.ac) g.ag.length (spv g.ag) rfl R3.out ⟨Z, 0, none⟩ 1 1 [.int .i64 (x : Int), .int .i64 (y : Int)] rfl rfl hnew (by simp [Value.oneCell']) (by unfold maxLen; omega) (by omega) hB3 ?_
  intro v' U4 own4 g4 _
  obtain ⟨va, vc, rfl, _, _⟩ := own_slice own4
  have hX4 := g4.block X hXU3 (fun e => by rcases hXn with h | h; (rw [h] at e; cases e); exact h e.symm)
  have hP4 := g4.block P hPU3 (fun e => NE.out _ e.symm rfl)
  refine hK _ _ ⟨hP4, hX4⟩ ?_
  clear hK K
  try simp only [Act.put, List.setIfInBounds_toArray, List.set_cons_succ, List.set_cons_zero]
  have s5' : Stays 5 U3 U4 := Stays.ofOwn g4 R3.out (by decide)
  have s60 : Stays 60 U3 U4 := Stays.ofOwn g4 R3.out (by decide)
  have BX4 := hX4.trans G3.out.bx
  have F4 := hid (G3.out.f.stays s5')
  have O4 := hid (own_stays G3.out.ow s60)
  have N4 := hid (fun v hv => (G3.out.ns v hv).stays5 s5' (G3.out.nog v hv))
  have NG := hid G3.out.nog
  have S4 := hid (S3.out.trans (⟨(Below.refl B U3).grown g4 hB3 (fun k hk => (R3.out.lt k hk).1), fun T _ _ h3 => Stays.ofOwn g4 R3.out (fun e => h3 e.symm)⟩ : GwS U3 U4 B))
  have R4 := hid own4
  clear own4 g4 hX4 hP4 s5' s60 hnew hUn G3 R3 S3 AP3 hXn NE
  iterate 3 (refine wpL_do rfl (fun w' hw' => (by go_simp; rfl)) ?_; simp only [Act.put, List.setIfInBounds_toArray, List.set_cons_succ, List.set_cons_zero])
  refine wpL_nil ?_
  simp only [List.drop_succ_cons, List.drop_zero]
  have c8 : U4.cell? ⟨X, 8, none⟩ = some (.slice A.aa g.ag.length A.ac) := by rw [cell_of_row _ _ _ _ _ _ BX4]; rfl
  have fz := frozen_row BX4 8
  obtain ⟨m1, m2⟩ := set_row (cs' := gwc D { g with ag := g.ag ++ [(x, y)] } { A with aa := va, ac := vc } (g.ag.length + 1) o.length) BX4 8 (.slice va (g.ag.length + 1) vc) rfl
  have R5 := row_kept_own BX4 R4.out m2 (by decide)
  have el : (g.ag ++ [(x, y)]).length = g.ag.length + 1 := by rw [List.length_append]; rfl
  have ev : spv (g.ag ++ [(x, y)]) = spv g.ag ++ [.int .i64 (x : Int), .int .i64 (y : Int)] := by
    unfold spv
    rw [List.flatMap_append]
    rfl
  have s5 := Stays.ofSet m2 BX4 (T := 5) (by decide)
  have R6 : (U4.setCell ⟨X, 8, none⟩ (.slice va (g.ag.length + 1) vc)).ownsRow B 84 2 (.slice va (g.ag ++ [(x, y)]).length vc) (g.ag ++ [(x, y)]).length (spv (g.ag ++ [(x, y)])) := by
    rw [el, ev]
    exact R5
  have GF := hid (show GW D (U4.setCell ⟨X, 8, none⟩ (.slice va (g.ag.length + 1) vc)) X B { g with ag := g.ag ++ [(x, y)] } { A with aa := va, ac := vc } o from ⟨by rw [el]; exact m1, F4.out.stays s5, OwnS.ofOwn R6, row_kept_own BX4 O4.out m2 (by decide), fun v hv => (N4.out v hv).stays5 s5 (NG.out v hv), NG.out⟩)
  have RF := hid R6
  have SF := hid (S4.out.set hB BX4 m2)
  clear m1 m2 R5 R6 el ev s5 F4 O4 N4 NG S4 R4 BX4
  go_wp2_with fail
  unfold OnlyOn
  exact q_fr (N := 56) HQ.out rfl ⟨s0.symm, rfl, rfl, rfl, ⟨_, GF.out, RF.out⟩, SF.out⟩
set_option maxRecDepth 1000000 in
set_option maxHeartbeats 8000000 in
theorem ask_tail (D : DP) (hD : DOk D) (X B P x y : Nat) (mt : Bool) (g : GS) (A : GA) (o : List NV) (hB : B ≤ X) :
    Tri Try.prog 56 (pieceOf Try.f35 [1, 0, 0, 1, 1, 0, 0, 1, 1]) (fun z w => z 0 = .pointer (some ⟨X, 0, none⟩) ∧ z 5 = .pointer (some ⟨P, 0, none⟩) ∧ z 6 = .bool mt ∧ AkP D X B P x y mt g A o w)
      (fun z w z' w' => z' 0 = z 0 ∧ z' 7 = z 7 ∧ z' 8 = z 8 ∧ z' 9 = z 9 ∧ (∃ A', GW D w' X B { g with ag := askedS D.P.F g.ag (x, y) } A' o ∧ w'.ownsRow B 84 2 (.slice A'.aa (askedS D.P.F g.ag (x, y)).length A'.ac) (askedS D.P.F g.ag (x, y)).length (spv (askedS D.P.F g.ag (x, y)))) ∧ GwS w w' B) := by
  rintro Q z w ⟨s0, s5, s6, h⟩ hQ
  have HQ := hid hQ
  clear hQ
  have hmt := h.mt
  have hyF := h.yF
  have hlen := h.len
  have hdr := (Below.refl w.heap.size w).drew
  have G := hid (h.gw.below hdr)
  have R := hid (ownsRow_below h.row hdr)
  have S := hid ((GwS.refl w B).below (h.gw.lt hB) hdr)
  have AP := row_below h.p hdr
  have hP := h.hP
  have NE := hid h.ne
  clear h hdr
  conv => arg 2; whnf
  rw [fr56]
  simp only [s0, s5, s6]
  refine wp_seq_k (fun K0 hK0 => ?_)
  refine wp_region_can 10 [] [0, 1, 2, 3, 4, 5, 6, 7, 8, 9] (fun u u' => u' = u) (fun _ => rfl) (fun _ _ _ h k => k.trans h) (by kernel_rfl) (by kernel_rfl) ?_
  simp only [List.map_cons, List.map_nil, List.contains_nil, List.getD_cons_zero, List.getD_cons_succ]
  generalize w.drew = U at *
  have p1 : U.cell? ⟨P, 1, none⟩ = some (.int .i64 (y : Int)) := by rw [cell_of_row _ _ _ _ _ _ AP]; rfl
  have c2 : U.cell? ⟨X, 2, none⟩ = some (.slice A.fa D.P.F A.fc) := by rw [cell_of_row _ _ _ _ _ _ G.out.bx]; rfl
  have hy1 : (y : Int) ≤ (D.P.F : Int) := by omega
  have hy2 : ¬ (D.P.F : Int) < (y : Int) := by omega
  iterate 8 (refine wpL_do rfl (fun w' hw' => (by cases hw'; go_simp; rfl)) ?_; simp only [Act.put, List.setIfInBounds_toArray, List.set_cons_succ, List.set_cons_zero])
  refine wpL_do (v := .int .i64 (y : Int)) rfl (fun w' hw' => (by cases hw'; go_simp; try omega)) ?_
  simp only [Act.put, List.setIfInBounds_toArray, List.set_cons_succ, List.set_cons_zero]
  iterate 1 (refine wpL_do rfl (fun w' hw' => (by cases hw'; go_simp; rfl)) ?_; simp only [Act.put, List.setIfInBounds_toArray, List.set_cons_succ, List.set_cons_zero])
  refine wpL_nil ?_
  simp only [List.drop_succ_cons, List.drop_zero]
  clear c2 hy1 hy2
  have fz := frozen_row AP 1
  obtain ⟨m1, m2⟩ := set_row (cs' := #[.int .i64 (x : Int), .int .i64 (y : Int)]) AP 1 (.int .i64 (y : Int)) rfl
  obtain ⟨g1, r1⟩ := G.out.write84 R.out AP NE.out m2
  have G1 := hid g1
  have R1 := hid r1
  have S1 := hid (S.out.trans (⟨(Below.refl B U).grown m2 (G.out.lt hB) (fun k e => by cases e; exact hP), fun T _ _ h3 => Stays.ofSet m2 AP h3⟩ : GwS U _ B))
  clear m2 g1 r1 G R S
  go_wp2_with fail
  unfold OnlyOn
  refine hK0.out _ _ ?_
  clear p1 fz AP
  generalize U.setCell ⟨P, 1, none⟩ (.int .i64 (y : Int)) = V at *
  refine wp_seq_k (fun K1 hK1 => ?_)
  have c8 : V.cell? ⟨X, 8, none⟩ = some (.slice A.aa g.ag.length A.ac) := by rw [cell_of_row _ _ _ _ _ _ G1.out.bx]; rfl
  have p0 : V.cell? ⟨P, 0, none⟩ = some (.int .i64 (x : Int)) := by rw [cell_of_row _ _ _ _ _ _ m1]; rfl
  have p1 : V.cell? ⟨P, 1, none⟩ = some (.int .i64 (y : Int)) := by rw [cell_of_row _ _ _ _ _ _ m1]; rfl
  have c8' := hid c8
  have NE1 := hid NE.out
  have e1 : pieceOf Try.f35 [1, 0, 0, 1, 1, 0, 0, 1, 1, 1, 1, 0] = pieceOf Try.f35 [1, 0, 0, 1, 1, 0, 0, 1, 1, 1, 1, 0] := rfl
  by_cases hl : g.ag.length < 1000
  · have d1 : (g.ag.length : Int) < 1000 := by omega
    have Ea : Hid (askedS D.P.F g.ag (x, y) = g.ag ++ [(x, y)]) := hid (by
      unfold askedS
      rw [if_pos, show min (x, y).2 D.P.F = y from by show min y D.P.F = y; omega]
      refine ⟨hl, ?_⟩
      rcases hmt with ⟨_, rfl, rfl⟩ | ⟨_, h⟩
      · exact .inl rfl
      · right
        show x < min y D.P.F
        omega)
    rcases hmt with ⟨rfl, rfl, rfl⟩ | ⟨rfl, hxy⟩
    · go_wp2_with fail
      refine hK1.out _ _ ?_
      refine wp_cond_true rfl ?_
      refine use_fr (N := 56) rfl ?_
      refine Tri.use (ask_put D X B P 0 0 g A o hB) rfl ⟨rfl, rfl, G1.out, R1.out, m1, NE.out, hlen⟩ ?_
      rintro y2 W2 ⟨e0, e7, e8, e9, hex, hs⟩
      have h2 := HQ.out y2 W2
      refine h2 ⟨e0.trans s0.symm, e7, e8, e9, ?_, S1.out.trans hs⟩
      rw [Ea.out]
      exact hex
    · have dxy : (x : Int) < (y : Int) := by omega
      go_wp2_with fail
      refine hK1.out _ _ ?_
      refine wp_cond_true rfl ?_
      refine use_fr (N := 56) rfl ?_
      refine Tri.use (ask_put D X B P x y g A o hB) rfl ⟨rfl, rfl, G1.out, R1.out, m1, NE.out, hlen⟩ ?_
      rintro y2 W2 ⟨e0, e7, e8, e9, hex, hs⟩
      have h2 := HQ.out y2 W2
      refine h2 ⟨e0.trans s0.symm, e7, e8, e9, ?_, S1.out.trans hs⟩
      rw [Ea.out]
      exact hex
  · have d1 : ¬ (g.ag.length : Int) < 1000 := by omega
    have Ea : Hid (askedS D.P.F g.ag (x, y) = g.ag) := hid (by
      unfold askedS
      rw [if_neg (fun h => hl h.1)])
    go_wp2_with fail
    refine hK1.out _ _ ?_
    refine wp_cond_false rfl ?_
    go_wp2_with fail
    refine q_fr (N := 56) HQ.out rfl ⟨s0.symm, rfl, rfl, rfl, ?_, S1.out⟩
    rw [Ea.out]
    exact ⟨A, G1.out, R1.out⟩
def akI (D : DP) (w : World) (X B : Nat) (g : GS) (o : List NV) (ga : Option Addr) (n c : Nat) (l : List Sp) (y : Nat → Value) (W : World) : Prop :=
  ∃ (k : Nat) (A : GA), k ≤ n ∧ y 0 = .pointer (some ⟨X, 0, none⟩) ∧ y 7 = .slice ga n c ∧ y 8 = .int .i64 (n : Int) ∧ y 9 = .int .i64 (k : Int) ∧ GW D W X B { g with ag := askedG D.P.F g.ag (l.take k) } A o ∧ W.ownsRow B 84 2 (.slice A.aa (askedG D.P.F g.ag (l.take k)).length A.ac) (askedG D.P.F g.ag (l.take k)).length (spv (askedG D.P.F g.ag (l.take k))) ∧ GwS w W B
set_option maxRecDepth 1000000 in
set_option maxHeartbeats 8000000 in
theorem asked_walk (D : DP) (hD : DOk D) (X B : Nat) (g : GS) (A : GA) (o : List NV) (ga : Option Addr) (n c : Nat) (l : List Sp) (w0 w : World) (hB : B ≤ X) (hB0 : w0.heap.size = B) (h0 : RdS w0 ga n c l) (hbw : Below B w0 w) (h : GW D w X B g A o) (hrow : w.ownsRow B 84 2 (.slice A.aa g.ag.length A.ac) g.ag.length (spv g.ag)) (hl : ∀ s ∈ l, vSp D.P.F s) (hg : g.ag.length ≤ 1000) (hn20 : n ≤ 20) :
    Calls Try.prog 35 #[.pointer (some ⟨X, 0, none⟩), .slice ga n c] w fun e w' => e = .returned (.tuple #[]) ∧ (∃ A', GW D w' X B { g with ag := askedG D.P.F g.ag l } A' o) ∧ GwS w w' B := by
  have hF := hD.P.F
  have hln := h0.ln
  go_enter Try.func35, Try.ntmps35
  refine wp_seq_k (fun K0 hK0 => ?_)
  go_wp2_with fail
  refine hK0.out _ _ ?_
  refine wp_block ?_
  refine wp_loop_fr 56 (akI D w X B g o ga n c l) (fun y' _ => n - (intOf (y' 9)).toNat) ⟨rfl, rfl, 0, A, Nat.zero_le _, rfl, rfl, rfl, rfl, h, hrow, GwS.refl w B⟩ ?_
  clear h hrow
  have H0 := hid h0
  have HBW := hid hbw
  have HL := hid hl
  clear h0 hbw hl
  rintro z W ⟨k, A1, hk, s0, s7, s8, s9, h1, hr1, hS1⟩
  have H1 := hid h1
  have R1 := hid hr1
  have S1 := hid hS1
  have hagl : (askedG D.P.F g.ag (l.take k)).length ≤ 1000 := askedG_len _ _ _ hg
  clear h1 hr1 hS1
  obtain ⟨ag, hag⟩ : ∃ ag, ag = askedG D.P.F g.ag (l.take k) := ⟨_, rfl⟩
  rw [← hag] at H1 R1 hagl
  have HAg := hid hag
  clear hag
  rw [fr56]
  simp only [s0, s7, s8, s9]
  clear s0 s7 s8 s9
  by_cases hlt : k < n
  · have d1 : decide ((k : Int) < (n : Int)) = true := decide_eq_true (by omega)
    have hkI : (k : Int) < (n : Int) := by omega
    have hk0 : (0 : Int) ≤ (k : Int) := by omega
    have hkt : ((k : Nat) : Int).toNat = k := rfl
    have hrd : RdS W ga n c l := H0.out.below (by rw [hB0]; exact HBW.out.trans S1.out.blw)
    obtain ⟨b, off, s, rfl, hb, hs, c0, c1⟩ := hrd.at_ k hlt
    have hvs := HL.out s (List.mem_of_getElem? hs)
    have HSk := hid hs
    clear hrd hs
    obtain ⟨x, y⟩ := s
    dsimp only at c0 c1
    go_upto_block 1 with (fail)
    refine wp_block ?_
    refine wp_seq_k (fun K3 hK3 => ?_)
    go_wp2_with fail
    refine hK3.out _ _ ?_
    have bW := below_alloc W (.cells #[.int .i64 (x : Int), .int .i64 (y : Int)] 84)
    have AN := heap_alloc_new W (.cells #[.int .i64 (x : Int), .int .i64 (y : Int)] 84)
    have G2 := hid (H1.out.below bW)
    have R2 := hid (ownsRow_below R1.out bW)
    have S2 := hid (S1.out.below (H1.out.lt hB) bW)
    have hBP : B ≤ W.heap.size := H1.out.lt hB
    have NE := hid (fun k (e : (Value.slice A1.aa ag.length A1.ac).ownBlock = some k) => (fun h => by have := (R1.out.lt k e).2; omega : k ≠ W.heap.size))
    obtain ⟨P, hP⟩ : ∃ P, P = W.heap.size := ⟨_, rfl⟩
    rw [← hP] at AN NE hBP ⊢
    clear bW H1 R1 S1 hP c0 c1
    generalize W.alloc (.cells #[.int .i64 (x : Int), .int .i64 (y : Int)] 84) = V at *
    have p0 : V.cell? ⟨P, 0, none⟩ = some (.int .i64 (x : Int)) := by rw [cell_of_row _ _ _ _ _ _ AN]; rfl
    have p1 : V.cell? ⟨P, 1, none⟩ = some (.int .i64 (y : Int)) := by rw [cell_of_row _ _ _ _ _ _ AN]; rfl
    have heq := eq84
    have hyF : y ≤ D.P.F := by
      rcases hvs with h | ⟨_, h⟩
      · injection h with _ h2; omega
      · exact h
    refine wp_seq_k (fun K4 hK4 => ?_)
    rcases hvs with hvs | ⟨hvx, _⟩
    · obtain ⟨rfl, rfl⟩ : x = 0 ∧ y = 0 := by injection hvs with h1 h2; exact ⟨h1, h2⟩
      go_wp2_with fail
      refine hK4.out _ _ ?_
      refine use_fr (N := 56) rfl ?_
      refine Tri.use (ask_tail D hD X B P 0 0 true { g with ag := ag } A1 o hB) rfl ⟨rfl, rfl, rfl, ⟨G2.out, R2.out, AN, hBP, NE.out, .inl ⟨rfl, rfl, rfl⟩, hyF, hagl⟩⟩ ?_
      rintro y2 W2 ⟨e0, e7, e8, e9, ⟨A2, hg2, hr2⟩, hs⟩
      have q0 : y2 0 = .pointer (some ⟨X, 0, none⟩) := e0
      have q7 : y2 7 = .slice (some ⟨b, off, none⟩) n c := e7
      have q8 : y2 8 = .int .i64 (n : Int) := e8
      have q9 : y2 9 = .int .i64 (k : Int) := e9
      have et : askedG D.P.F g.ag (l.take (k + 1)) = askedS D.P.F ag (0, 0) := by
        rw [List.take_add_one, HSk.out]
        show askedG D.P.F g.ag (l.take k ++ [(0, 0)]) = _
        rw [askedG_snoc, ← HAg.out]
      have HG := hid hg2
      have HR := hid hr2
      have HS := hid (S2.out.trans hs)
      have ET := hid et
      clear hg2 hr2 hs e0 e7 e8 e9 et G2 R2 S2 AN p0 p1 heq
      rw [fr56]
      simp only [q0, q7, q8, q9]
      go_wp2_with fail
      refine ⟨rfl, rfl, ⟨k + 1, A2, by omega, rfl, rfl, rfl, ?_, by rw [ET.out]; exact HG.out, by rw [ET.out]; exact HR.out, HS.out⟩, ?_⟩
      · show Value.int .i64 _ = Value.int .i64 _
        go_num
      · show n - (intOf (Value.int .i64 _)).toNat < _
        simp [intOf]
        omega
    · have dy : ((x : Int) == 0 && (y : Int) == 0) = false := by
        rw [Bool.and_eq_false_iff]; right; rw [beq_eq_false_iff_ne]; have : x < y := hvx; omega
      have dy2 : ((y : Int) == 0) = false := by rw [beq_eq_false_iff_ne]; have : x < y := hvx; omega
      go_wp2_with fail
      refine hK4.out _ _ ?_
      refine use_fr (N := 56) rfl ?_
      refine Tri.use (ask_tail D hD X B P x y false { g with ag := ag } A1 o hB) rfl ⟨rfl, rfl, rfl, ⟨G2.out, R2.out, AN, hBP, NE.out, .inr ⟨rfl, hvx⟩, hyF, hagl⟩⟩ ?_
      rintro y2 W2 ⟨e0, e7, e8, e9, ⟨A2, hg2, hr2⟩, hs⟩
      have q0 : y2 0 = .pointer (some ⟨X, 0, none⟩) := e0
      have q7 : y2 7 = .slice (some ⟨b, off, none⟩) n c := e7
      have q8 : y2 8 = .int .i64 (n : Int) := e8
      have q9 : y2 9 = .int .i64 (k : Int) := e9
      have et : askedG D.P.F g.ag (l.take (k + 1)) = askedS D.P.F ag (x, y) := by
        rw [List.take_add_one, HSk.out]
        show askedG D.P.F g.ag (l.take k ++ [(x, y)]) = _
        rw [askedG_snoc, ← HAg.out]
      have HG := hid hg2
      have HR := hid hr2
      have HS := hid (S2.out.trans hs)
      have ET := hid et
      clear hg2 hr2 hs e0 e7 e8 e9 et G2 R2 S2 AN p0 p1 heq
      rw [fr56]
      simp only [q0, q7, q8, q9]
      go_wp2_with fail
      refine ⟨rfl, rfl, ⟨k + 1, A2, by omega, rfl, rfl, rfl, ?_, by rw [ET.out]; exact HG.out, by rw [ET.out]; exact HR.out, HS.out⟩, ?_⟩
      · show Value.int .i64 _ = Value.int .i64 _
        go_num
      · show n - (intOf (Value.int .i64 _)).toNat < _
        simp [intOf]
        omega
  · obtain rfl : k = n := by omega
    have d1 : decide ((k : Int) < (k : Int)) = false := decide_eq_false (by omega)
    go_wp2_with fail
    go_end0
    have e : l.take k = l := List.take_of_length_le (by omega)
    have h1 := H1.out
    rw [HAg.out, e] at h1
    exact ⟨rfl, ⟨A1, h1⟩, S1.out⟩
end Go.Proofs.Ytopmamgdfngdoaa
/- deliver: bare (printed by genbare.py). -/
namespace Go.Proofs.Ytopmamgdfngdoaa
set_option linter.unusedVariables false
open Go.RowKit
theorem results_c0 {P : Program} {fn : Func} {p : Tmp} {ty : TypeId} (h : fn.results = #[.cell p ty]) (tmps : Array Value) (w : World) (g : Nat) (t : TypeId) (cs : Array Value) (fr : Nat × Nat)
    (hp : tmps.getD p undef = .pointer (some ⟨g, 0, none⟩)) (hg : w.heap[g]? = some (.cells cs t fr))
    (hud : (P.underlying ty).map (fun d => match d with | .struct _ | .array _ _ => true | _ => false) = some true) (hi : (P.info? ty).map (·.size) = some cs.size) :
    (results fn tmps).run P w = .ok (.agg cs) w := by
  obtain ⟨d, hu, hd⟩ := Option.map_eq_some_iff.1 hud
  have hp' : tmps[p]?.getD undef = .pointer (some ⟨g, 0, none⟩) := by simpa using hp
  simp [results, h, hp', asAddr, run_loadVar_row w g t ty cs fr d hg hu (by cases d <;> first | rfl | cases hd) hi]

set_option maxRecDepth 1000000 in
set_option maxHeartbeats 4000000 in
theorem bare_nm (f2 : ByteArray) (f3 : Int) (w : World) : Calls Try.prog 51 #[.agg #[.int .i64 1, .int .i64 7, .string f2, .int .i64 f3, .int .i64 0, .int .i64 0, .slice none 0 0, .slice none 0 0, .int .i64 0, .int .i64 0]] w fun e w' => e = .returned (.agg #[.int .i64 1, .int .i64 7, .string f2, .int .i64 f3, .int .i64 0, .int .i64 0, .slice none 0 0, .slice none 0 0, .int .i64 0, .int .i64 0]) ∧ Below w.heap.size w w' := by
  have b1 := below_alloc w (.cells #[.int .i64 1, .int .i64 7, .string f2, .int .i64 f3, .int .i64 0, .int .i64 0, .slice none 0 0, .slice none 0 0, .int .i64 0, .int .i64 0] 60)
  have A1 := heap_alloc_new w (.cells #[.int .i64 1, .int .i64 7, .string f2, .int .i64 f3, .int .i64 0, .int .i64 0, .slice none 0 0, .slice none 0 0, .int .i64 0, .int .i64 0] 60)
  generalize hV1 : w.alloc (.cells #[.int .i64 1, .int .i64 7, .string f2, .int .i64 f3, .int .i64 0, .int .i64 0, .slice none 0 0, .slice none 0 0, .int .i64 0, .int .i64 0] 60) = V1 at *
  have b2 := below_alloc V1 (.cells #[.int .i64 0, .int .i64 0, .string { data := #[] }, .int .i64 0, .int .i64 0, .int .i64 0, .slice none 0 0, .slice none 0 0, .int .i64 0, .int .i64 0] 60)
  have A2 := heap_alloc_new V1 (.cells #[.int .i64 0, .int .i64 0, .string { data := #[] }, .int .i64 0, .int .i64 0, .int .i64 0, .slice none 0 0, .slice none 0 0, .int .i64 0, .int .i64 0] 60)
  have A1' := row_below A1 b2
  have B2 := hid (b1.trans (b2.mono b1.size))
  have hN : w.heap.size < V1.heap.size := row_lt A1
  go_enter Try.func51, Try.ntmps51
  refine wp_seq_k (fun K0 hK0 => ?_)
  go_wp2_with fail
  refine hK0.out _ _ ?_
  clear hV1 b1 A1
  generalize V1.alloc (.cells #[.int .i64 0, .int .i64 0, .string { data := #[] }, .int .i64 0, .int .i64 0, .int .i64 0, .slice none 0 0, .slice none 0 0, .int .i64 0, .int .i64 0] 60) = V2 at *
  obtain ⟨N, hNe⟩ : ∃ N, N = w.heap.size := ⟨_, rfl⟩
  obtain ⟨Q0, hQ0⟩ : ∃ Q0, Q0 = V1.heap.size := ⟨_, rfl⟩
  rw [← hQ0] at A2 hN ⊢
  rw [← hNe] at A1' hN ⊢
  have hw0 : w.heap.size ≤ N := Nat.le_of_eq hNe.symm
  have HNe := hid hNe
  clear hNe hQ0
  have c0 : V2.cell? ⟨N, 0, none⟩ = some (.int .i64 1) := by rw [cell_of_row _ _ _ _ _ _ A1']; rfl
  have c1 : V2.cell? ⟨N, 1, none⟩ = some (.int .i64 7) := by rw [cell_of_row _ _ _ _ _ _ A1']; rfl
  refine wp_seq_k (fun K1 hK1 => ?_)
  go_wp2_with fail
  refine hK1.out _ _ ?_
  clear b2
  have b3 := below_alloc V2 (.cells #[.int .i64 1, .int .i64 7, .string { data := #[] }, .int .i64 0, .int .i64 0, .int .i64 0, .slice none 0 0, .slice none 0 0, .int .i64 0, .int .i64 0] 60)
  have A3 := heap_alloc_new V2 (.cells #[.int .i64 1, .int .i64 7, .string { data := #[] }, .int .i64 0, .int .i64 0, .int .i64 0, .slice none 0 0, .slice none 0 0, .int .i64 0, .int .i64 0] 60)
  have A1'' := row_below A1' b3
  have A2' := row_below A2 b3
  have hQ : Q0 < V2.heap.size := row_lt A2
  have B3 := hid (B2.out.trans (b3.mono B2.out.size))
  generalize V2.alloc (.cells #[.int .i64 1, .int .i64 7, .string { data := #[] }, .int .i64 0, .int .i64 0, .int .i64 0, .slice none 0 0, .slice none 0 0, .int .i64 0, .int .i64 0] 60) = V3 at *
  obtain ⟨Q, hQe⟩ : ∃ Q, Q = V2.heap.size := ⟨_, rfl⟩
  rw [← hQe] at A3 hQ ⊢
  have hNQ : N ≠ Q := by omega
  have hQQ : Q0 ≠ Q := by omega
  have hNQ0 : N ≠ Q0 := by omega
  have hwQ : w.heap.size ≤ Q := by omega
  have hwQ0 : w.heap.size ≤ Q0 := by omega
  clear c0 c1 A1' A2 hQe b3 B2
  have c0 : V3.cell? ⟨N, 0, none⟩ = some (.int .i64 1) := by rw [cell_of_row _ _ _ _ _ _ A1'']; rfl
  go_upto_region 4 with (fail)
  refine wp_region_can_all [5, 7] [0, 1, 2, 3, 4, 5, 6, 7] (fun u u' => u'.heap[N]? = u.heap[N]?) (fun _ => rfl) (fun _ _ _ h k => k.trans h) (by kernel_rfl) (by kernel_rfl) ?_
  simp only [List.map_cons, List.map_nil, List.contains_cons, List.contains_nil, List.getD_cons_zero, List.getD_cons_succ, Nat.reduceBEq, Bool.or_false, Bool.or_true]
  have hdr := (Below.refl V3.heap.size V3).drew
  have N4 := row_below A1'' hdr
  have Q4 := row_below A3 hdr
  have O4 := row_below A2' hdr
  have B4 := hid (B3.out.trans (hdr.mono B3.out.size))
  clear hdr A1'' A3 A2' B3 c0
  generalize V3.drew = U at *
  have f1 : ∀ w' : World, w'.heap[N]? = U.heap[N]? → w'.cell? ⟨N, 2, none⟩ = some (.string f2) := fun w' h => by rw [cell_of_row _ _ _ _ _ _ (h.trans N4)]; rfl
  have f2' : ∀ w' : World, w'.heap[N]? = U.heap[N]? → w'.cell? ⟨N, 3, none⟩ = some (.int .i64 f3) := fun w' h => by rw [cell_of_row _ _ _ _ _ _ (h.trans N4)]; rfl
  iterate 5 (refine wpL_do rfl (fun w' hw' => (by go_simp; rfl)) ?_; simp only [Act.put, List.setIfInBounds_toArray, List.set_cons_succ, List.set_cons_zero])
  clear f1 f2'
  have q1 : U.cell? ⟨Q, 2, none⟩ = some (.string { data := #[] }) := by rw [cell_of_row _ _ _ _ _ _ Q4]; rfl
  have fz := frozen_row Q4 2
  obtain ⟨m1, m2⟩ := set_row (cs' := #[.int .i64 1, .int .i64 7, .string f2, .int .i64 0, .int .i64 0, .int .i64 0, .slice none 0 0, .slice none 0 0, .int .i64 0, .int .i64 0]) Q4 2 (.string f2) rfl
  have N5 := row_grown N4 m2 hNQ
  have O5 := row_grown O4 m2 hQQ
  have B5 := hid (B4.out.grown m2 B4.out.size (fun k e => by cases e; exact hwQ))
  refine wpL_call rfl (fun K hK => ?_)
  go_wp2_with fail
  refine hK _ _ (N5.trans N4.symm) ?_
  clear hK K m2 q1 fz Q4 N4 O4 B4
  try simp only [Act.put]
  generalize U.setCell ⟨Q, 2, none⟩ (.string f2) = U5 at *
  iterate 1 (refine wpL_do rfl (fun w' hw' => (by go_simp; rfl)) ?_; simp only [Act.put, List.setIfInBounds_toArray, List.set_cons_succ, List.set_cons_zero])
  have q1 : U5.cell? ⟨Q, 3, none⟩ = some (.int .i64 0) := by rw [cell_of_row _ _ _ _ _ _ m1]; rfl
  have fz := frozen_row m1 3
  obtain ⟨k1, k2⟩ := set_row (cs' := #[.int .i64 1, .int .i64 7, .string f2, .int .i64 f3, .int .i64 0, .int .i64 0, .slice none 0 0, .slice none 0 0, .int .i64 0, .int .i64 0]) m1 3 (.int .i64 f3) rfl
  have N6 := row_grown N5 k2 hNQ
  have O6 := row_grown O5 k2 hQQ
  have B6 := hid (B5.out.grown k2 B5.out.size (fun k e => by cases e; exact hwQ))
  refine wpL_call rfl (fun K hK => ?_)
  go_wp2_with fail
  refine hK _ _ (N6.trans N5.symm) ?_
  clear hK K k2 q1 fz m1 N5 O5 B5
  try simp only [Act.put]
  refine wpL_nil ?_
  generalize U5.setCell ⟨Q, 3, none⟩ (.int .i64 f3) = U6 at *
  obtain ⟨m1, m2⟩ := set_whole (cs' := #[.int .i64 1, .int .i64 7, .string f2, .int .i64 f3, .int .i64 0, .int .i64 0, .slice none 0 0, .slice none 0 0, .int .i64 0, .int .i64 0]) O6
  have B7 := hid (B6.out.grown m2 B6.out.size (fun k e => by cases e; exact hwQ0))
  clear m2
  go_wp2_with (first | (with_reducible refine wpList_load_row (o := ⟨some 50, _, _, _, _, _⟩) rfl 60 _ rfl Q rfl 60 _ _ _ k1 Try.underlying60 rfl (by kernel_rfl) ?_) | (with_reducible refine at_store 60 ?_))
  unfold Hid
  refine wpList_store_row rfl 60 _ _ rfl Q0 #[.int .i64 1, .int .i64 7, .string f2, .int .i64 f3, .int .i64 0, .int .i64 0, .slice none 0 0, .slice none 0 0, .int .i64 0, .int .i64 0] rfl rfl 60 _ O6 (by kernel_rfl) rfl (by simp [Value.oneCell']) ?_
  have HM := hid m1
  clear m1
  go_wp2_with fail
  refine bodyPost_ret (results_c0 (fn := Try.f51) rfl _ _ Q0 60 _ _ rfl HM.out (by kernel_rfl) (by kernel_rfl)) rfl ?_
  exact ⟨rfl, by rw [HNe.out]; exact B7.out⟩

set_option maxRecDepth 1000000 in
set_option maxHeartbeats 4000000 in
theorem bare_np (f5 : Int) (da : Option Addr) (dn dc : Nat) (w : World) : Calls Try.prog 51 #[.agg #[.int .i64 2, .int .i64 7, .string { data := #[] }, .int .i64 0, .int .i64 0, .int .i64 f5, .slice da dn dc, .slice none 0 0, .int .i64 0, .int .i64 0]] w fun e w' => e = .returned (.agg #[.int .i64 2, .int .i64 7, .string { data := #[] }, .int .i64 0, .int .i64 0, .int .i64 f5, .slice da dn dc, .slice none 0 0, .int .i64 0, .int .i64 0]) ∧ Below w.heap.size w w' := by
  have b1 := below_alloc w (.cells #[.int .i64 2, .int .i64 7, .string { data := #[] }, .int .i64 0, .int .i64 0, .int .i64 f5, .slice da dn dc, .slice none 0 0, .int .i64 0, .int .i64 0] 60)
  have A1 := heap_alloc_new w (.cells #[.int .i64 2, .int .i64 7, .string { data := #[] }, .int .i64 0, .int .i64 0, .int .i64 f5, .slice da dn dc, .slice none 0 0, .int .i64 0, .int .i64 0] 60)
  generalize hV1 : w.alloc (.cells #[.int .i64 2, .int .i64 7, .string { data := #[] }, .int .i64 0, .int .i64 0, .int .i64 f5, .slice da dn dc, .slice none 0 0, .int .i64 0, .int .i64 0] 60) = V1 at *
  have b2 := below_alloc V1 (.cells #[.int .i64 0, .int .i64 0, .string { data := #[] }, .int .i64 0, .int .i64 0, .int .i64 0, .slice none 0 0, .slice none 0 0, .int .i64 0, .int .i64 0] 60)
  have A2 := heap_alloc_new V1 (.cells #[.int .i64 0, .int .i64 0, .string { data := #[] }, .int .i64 0, .int .i64 0, .int .i64 0, .slice none 0 0, .slice none 0 0, .int .i64 0, .int .i64 0] 60)
  have A1' := row_below A1 b2
  have B2 := hid (b1.trans (b2.mono b1.size))
  have hN : w.heap.size < V1.heap.size := row_lt A1
  go_enter Try.func51, Try.ntmps51
  refine wp_seq_k (fun K0 hK0 => ?_)
  go_wp2_with fail
  refine hK0.out _ _ ?_
  clear hV1 b1 A1
  generalize V1.alloc (.cells #[.int .i64 0, .int .i64 0, .string { data := #[] }, .int .i64 0, .int .i64 0, .int .i64 0, .slice none 0 0, .slice none 0 0, .int .i64 0, .int .i64 0] 60) = V2 at *
  obtain ⟨N, hNe⟩ : ∃ N, N = w.heap.size := ⟨_, rfl⟩
  obtain ⟨Q0, hQ0⟩ : ∃ Q0, Q0 = V1.heap.size := ⟨_, rfl⟩
  rw [← hQ0] at A2 hN ⊢
  rw [← hNe] at A1' hN ⊢
  have hw0 : w.heap.size ≤ N := Nat.le_of_eq hNe.symm
  have HNe := hid hNe
  clear hNe hQ0
  have c0 : V2.cell? ⟨N, 0, none⟩ = some (.int .i64 2) := by rw [cell_of_row _ _ _ _ _ _ A1']; rfl
  have c1 : V2.cell? ⟨N, 1, none⟩ = some (.int .i64 7) := by rw [cell_of_row _ _ _ _ _ _ A1']; rfl
  refine wp_seq_k (fun K1 hK1 => ?_)
  go_wp2_with fail
  refine hK1.out _ _ ?_
  clear b2
  have b3 := below_alloc V2 (.cells #[.int .i64 2, .int .i64 7, .string { data := #[] }, .int .i64 0, .int .i64 0, .int .i64 0, .slice none 0 0, .slice none 0 0, .int .i64 0, .int .i64 0] 60)
  have A3 := heap_alloc_new V2 (.cells #[.int .i64 2, .int .i64 7, .string { data := #[] }, .int .i64 0, .int .i64 0, .int .i64 0, .slice none 0 0, .slice none 0 0, .int .i64 0, .int .i64 0] 60)
  have A1'' := row_below A1' b3
  have A2' := row_below A2 b3
  have hQ : Q0 < V2.heap.size := row_lt A2
  have B3 := hid (B2.out.trans (b3.mono B2.out.size))
  generalize V2.alloc (.cells #[.int .i64 2, .int .i64 7, .string { data := #[] }, .int .i64 0, .int .i64 0, .int .i64 0, .slice none 0 0, .slice none 0 0, .int .i64 0, .int .i64 0] 60) = V3 at *
  obtain ⟨Q, hQe⟩ : ∃ Q, Q = V2.heap.size := ⟨_, rfl⟩
  rw [← hQe] at A3 hQ ⊢
  have hNQ : N ≠ Q := by omega
  have hQQ : Q0 ≠ Q := by omega
  have hNQ0 : N ≠ Q0 := by omega
  have hwQ : w.heap.size ≤ Q := by omega
  have hwQ0 : w.heap.size ≤ Q0 := by omega
  clear c0 c1 A1' A2 hQe b3 B2
  have c0 : V3.cell? ⟨N, 0, none⟩ = some (.int .i64 2) := by rw [cell_of_row _ _ _ _ _ _ A1'']; rfl
  go_upto_region 6 with (fail)
  refine wp_region_can_all [5, 7] [0, 1, 2, 3, 4, 5, 6, 7] (fun u u' => u'.heap[N]? = u.heap[N]?) (fun _ => rfl) (fun _ _ _ h k => k.trans h) (by kernel_rfl) (by kernel_rfl) ?_
  simp only [List.map_cons, List.map_nil, List.contains_cons, List.contains_nil, List.getD_cons_zero, List.getD_cons_succ, Nat.reduceBEq, Bool.or_false, Bool.or_true]
  have hdr := (Below.refl V3.heap.size V3).drew
  have N4 := row_below A1'' hdr
  have Q4 := row_below A3 hdr
  have O4 := row_below A2' hdr
  have B4 := hid (B3.out.trans (hdr.mono B3.out.size))
  clear hdr A1'' A3 A2' B3 c0
  generalize V3.drew = U at *
  have f1 : ∀ w' : World, w'.heap[N]? = U.heap[N]? → w'.cell? ⟨N, 5, none⟩ = some (.int .i64 f5) := fun w' h => by rw [cell_of_row _ _ _ _ _ _ (h.trans N4)]; rfl
  have f2' : ∀ w' : World, w'.heap[N]? = U.heap[N]? → w'.cell? ⟨N, 6, none⟩ = some (.slice da dn dc) := fun w' h => by rw [cell_of_row _ _ _ _ _ _ (h.trans N4)]; rfl
  iterate 5 (refine wpL_do rfl (fun w' hw' => (by go_simp; rfl)) ?_; simp only [Act.put, List.setIfInBounds_toArray, List.set_cons_succ, List.set_cons_zero])
  clear f1 f2'
  have q1 : U.cell? ⟨Q, 5, none⟩ = some (.int .i64 0) := by rw [cell_of_row _ _ _ _ _ _ Q4]; rfl
  have fz := frozen_row Q4 5
  obtain ⟨m1, m2⟩ := set_row (cs' := #[.int .i64 2, .int .i64 7, .string { data := #[] }, .int .i64 0, .int .i64 0, .int .i64 f5, .slice none 0 0, .slice none 0 0, .int .i64 0, .int .i64 0]) Q4 5 (.int .i64 f5) rfl
  have N5 := row_grown N4 m2 hNQ
  have O5 := row_grown O4 m2 hQQ
  have B5 := hid (B4.out.grown m2 B4.out.size (fun k e => by cases e; exact hwQ))
  refine wpL_call rfl (fun K hK => ?_)
  go_wp2_with fail
  refine hK _ _ (N5.trans N4.symm) ?_
  clear hK K m2 q1 fz Q4 N4 O4 B4
  try simp only [Act.put]
  generalize U.setCell ⟨Q, 5, none⟩ (.int .i64 f5) = U5 at *
  iterate 1 (refine wpL_do rfl (fun w' hw' => (by go_simp; rfl)) ?_; simp only [Act.put, List.setIfInBounds_toArray, List.set_cons_succ, List.set_cons_zero])
  have q1 : U5.cell? ⟨Q, 6, none⟩ = some (.slice none 0 0) := by rw [cell_of_row _ _ _ _ _ _ m1]; rfl
  have fz := frozen_row m1 6
  obtain ⟨k1, k2⟩ := set_row (cs' := #[.int .i64 2, .int .i64 7, .string { data := #[] }, .int .i64 0, .int .i64 0, .int .i64 f5, .slice da dn dc, .slice none 0 0, .int .i64 0, .int .i64 0]) m1 6 (.slice da dn dc) rfl
  have N6 := row_grown N5 k2 hNQ
  have O6 := row_grown O5 k2 hQQ
  have B6 := hid (B5.out.grown k2 B5.out.size (fun k e => by cases e; exact hwQ))
  refine wpL_call rfl (fun K hK => ?_)
  go_wp2_with fail
  refine hK _ _ (N6.trans N5.symm) ?_
  clear hK K k2 q1 fz m1 N5 O5 B5
  try simp only [Act.put]
  refine wpL_nil ?_
  generalize U5.setCell ⟨Q, 6, none⟩ (.slice da dn dc) = U6 at *
  obtain ⟨m1, m2⟩ := set_whole (cs' := #[.int .i64 2, .int .i64 7, .string { data := #[] }, .int .i64 0, .int .i64 0, .int .i64 f5, .slice da dn dc, .slice none 0 0, .int .i64 0, .int .i64 0]) O6
  have B7 := hid (B6.out.grown m2 B6.out.size (fun k e => by cases e; exact hwQ0))
  clear m2
  go_wp2_with (first | (with_reducible refine wpList_load_row (o := ⟨some 50, _, _, _, _, _⟩) rfl 60 _ rfl Q rfl 60 _ _ _ k1 Try.underlying60 rfl (by kernel_rfl) ?_) | (with_reducible refine at_store 60 ?_))
  unfold Hid
  refine wpList_store_row rfl 60 _ _ rfl Q0 #[.int .i64 2, .int .i64 7, .string { data := #[] }, .int .i64 0, .int .i64 0, .int .i64 f5, .slice da dn dc, .slice none 0 0, .int .i64 0, .int .i64 0] rfl rfl 60 _ O6 (by kernel_rfl) rfl (by simp [Value.oneCell']) ?_
  have HM := hid m1
  clear m1
  go_wp2_with fail
  refine bodyPost_ret (results_c0 (fn := Try.f51) rfl _ _ Q0 60 _ _ rfl HM.out (by kernel_rfl) (by kernel_rfl)) rfl ?_
  exact ⟨rfl, by rw [HNe.out]; exact B7.out⟩

set_option maxRecDepth 1000000 in
set_option maxHeartbeats 4000000 in
theorem bare_ne (f3 f4 : Int) (w : World) : Calls Try.prog 51 #[.agg #[.int .i64 3, .int .i64 7, .string { data := #[] }, .int .i64 f3, .int .i64 f4, .int .i64 0, .slice none 0 0, .slice none 0 0, .int .i64 0, .int .i64 0]] w fun e w' => e = .returned (.agg #[.int .i64 3, .int .i64 7, .string { data := #[] }, .int .i64 f3, .int .i64 f4, .int .i64 0, .slice none 0 0, .slice none 0 0, .int .i64 0, .int .i64 0]) ∧ Below w.heap.size w w' := by
  have b1 := below_alloc w (.cells #[.int .i64 3, .int .i64 7, .string { data := #[] }, .int .i64 f3, .int .i64 f4, .int .i64 0, .slice none 0 0, .slice none 0 0, .int .i64 0, .int .i64 0] 60)
  have A1 := heap_alloc_new w (.cells #[.int .i64 3, .int .i64 7, .string { data := #[] }, .int .i64 f3, .int .i64 f4, .int .i64 0, .slice none 0 0, .slice none 0 0, .int .i64 0, .int .i64 0] 60)
  generalize hV1 : w.alloc (.cells #[.int .i64 3, .int .i64 7, .string { data := #[] }, .int .i64 f3, .int .i64 f4, .int .i64 0, .slice none 0 0, .slice none 0 0, .int .i64 0, .int .i64 0] 60) = V1 at *
  have b2 := below_alloc V1 (.cells #[.int .i64 0, .int .i64 0, .string { data := #[] }, .int .i64 0, .int .i64 0, .int .i64 0, .slice none 0 0, .slice none 0 0, .int .i64 0, .int .i64 0] 60)
  have A2 := heap_alloc_new V1 (.cells #[.int .i64 0, .int .i64 0, .string { data := #[] }, .int .i64 0, .int .i64 0, .int .i64 0, .slice none 0 0, .slice none 0 0, .int .i64 0, .int .i64 0] 60)
  have A1' := row_below A1 b2
  have B2 := hid (b1.trans (b2.mono b1.size))
  have hN : w.heap.size < V1.heap.size := row_lt A1
  go_enter Try.func51, Try.ntmps51
  refine wp_seq_k (fun K0 hK0 => ?_)
  go_wp2_with fail
  refine hK0.out _ _ ?_
  clear hV1 b1 A1
  generalize V1.alloc (.cells #[.int .i64 0, .int .i64 0, .string { data := #[] }, .int .i64 0, .int .i64 0, .int .i64 0, .slice none 0 0, .slice none 0 0, .int .i64 0, .int .i64 0] 60) = V2 at *
  obtain ⟨N, hNe⟩ : ∃ N, N = w.heap.size := ⟨_, rfl⟩
  obtain ⟨Q0, hQ0⟩ : ∃ Q0, Q0 = V1.heap.size := ⟨_, rfl⟩
  rw [← hQ0] at A2 hN ⊢
  rw [← hNe] at A1' hN ⊢
  have hw0 : w.heap.size ≤ N := Nat.le_of_eq hNe.symm
  have HNe := hid hNe
  clear hNe hQ0
  have c0 : V2.cell? ⟨N, 0, none⟩ = some (.int .i64 3) := by rw [cell_of_row _ _ _ _ _ _ A1']; rfl
  have c1 : V2.cell? ⟨N, 1, none⟩ = some (.int .i64 7) := by rw [cell_of_row _ _ _ _ _ _ A1']; rfl
  refine wp_seq_k (fun K1 hK1 => ?_)
  go_wp2_with fail
  refine hK1.out _ _ ?_
  clear b2
  have b3 := below_alloc V2 (.cells #[.int .i64 3, .int .i64 7, .string { data := #[] }, .int .i64 0, .int .i64 0, .int .i64 0, .slice none 0 0, .slice none 0 0, .int .i64 0, .int .i64 0] 60)
  have A3 := heap_alloc_new V2 (.cells #[.int .i64 3, .int .i64 7, .string { data := #[] }, .int .i64 0, .int .i64 0, .int .i64 0, .slice none 0 0, .slice none 0 0, .int .i64 0, .int .i64 0] 60)
  have A1'' := row_below A1' b3
  have A2' := row_below A2 b3
  have hQ : Q0 < V2.heap.size := row_lt A2
  have B3 := hid (B2.out.trans (b3.mono B2.out.size))
  generalize V2.alloc (.cells #[.int .i64 3, .int .i64 7, .string { data := #[] }, .int .i64 0, .int .i64 0, .int .i64 0, .slice none 0 0, .slice none 0 0, .int .i64 0, .int .i64 0] 60) = V3 at *
  obtain ⟨Q, hQe⟩ : ∃ Q, Q = V2.heap.size := ⟨_, rfl⟩
  rw [← hQe] at A3 hQ ⊢
  have hNQ : N ≠ Q := by omega
  have hQQ : Q0 ≠ Q := by omega
  have hNQ0 : N ≠ Q0 := by omega
  have hwQ : w.heap.size ≤ Q := by omega
  have hwQ0 : w.heap.size ≤ Q0 := by omega
  clear c0 c1 A1' A2 hQe b3 B2
  have c0 : V3.cell? ⟨N, 0, none⟩ = some (.int .i64 3) := by rw [cell_of_row _ _ _ _ _ _ A1'']; rfl
  go_upto_region 8 with (fail)
  refine wp_region_can_all [5, 7] [0, 1, 2, 3, 4, 5, 6, 7] (fun u u' => u'.heap[N]? = u.heap[N]?) (fun _ => rfl) (fun _ _ _ h k => k.trans h) (by kernel_rfl) (by kernel_rfl) ?_
  simp only [List.map_cons, List.map_nil, List.contains_cons, List.contains_nil, List.getD_cons_zero, List.getD_cons_succ, Nat.reduceBEq, Bool.or_false, Bool.or_true]
  have hdr := (Below.refl V3.heap.size V3).drew
  have N4 := row_below A1'' hdr
  have Q4 := row_below A3 hdr
  have O4 := row_below A2' hdr
  have B4 := hid (B3.out.trans (hdr.mono B3.out.size))
  clear hdr A1'' A3 A2' B3 c0
  generalize V3.drew = U at *
  have f1 : ∀ w' : World, w'.heap[N]? = U.heap[N]? → w'.cell? ⟨N, 3, none⟩ = some (.int .i64 f3) := fun w' h => by rw [cell_of_row _ _ _ _ _ _ (h.trans N4)]; rfl
  have f2' : ∀ w' : World, w'.heap[N]? = U.heap[N]? → w'.cell? ⟨N, 4, none⟩ = some (.int .i64 f4) := fun w' h => by rw [cell_of_row _ _ _ _ _ _ (h.trans N4)]; rfl
  iterate 5 (refine wpL_do rfl (fun w' hw' => (by go_simp; rfl)) ?_; simp only [Act.put, List.setIfInBounds_toArray, List.set_cons_succ, List.set_cons_zero])
  clear f1 f2'
  have q1 : U.cell? ⟨Q, 3, none⟩ = some (.int .i64 0) := by rw [cell_of_row _ _ _ _ _ _ Q4]; rfl
  have fz := frozen_row Q4 3
  obtain ⟨m1, m2⟩ := set_row (cs' := #[.int .i64 3, .int .i64 7, .string { data := #[] }, .int .i64 f3, .int .i64 0, .int .i64 0, .slice none 0 0, .slice none 0 0, .int .i64 0, .int .i64 0]) Q4 3 (.int .i64 f3) rfl
  have N5 := row_grown N4 m2 hNQ
  have O5 := row_grown O4 m2 hQQ
  have B5 := hid (B4.out.grown m2 B4.out.size (fun k e => by cases e; exact hwQ))
  refine wpL_call rfl (fun K hK => ?_)
  go_wp2_with fail
  refine hK _ _ (N5.trans N4.symm) ?_
  clear hK K m2 q1 fz Q4 N4 O4 B4
  try simp only [Act.put]
  generalize U.setCell ⟨Q, 3, none⟩ (.int .i64 f3) = U5 at *
  iterate 1 (refine wpL_do rfl (fun w' hw' => (by go_simp; rfl)) ?_; simp only [Act.put, List.setIfInBounds_toArray, List.set_cons_succ, List.set_cons_zero])
  have q1 : U5.cell? ⟨Q, 4, none⟩ = some (.int .i64 0) := by rw [cell_of_row _ _ _ _ _ _ m1]; rfl
  have fz := frozen_row m1 4
  obtain ⟨k1, k2⟩ := set_row (cs' := #[.int .i64 3, .int .i64 7, .string { data := #[] }, .int .i64 f3, .int .i64 f4, .int .i64 0, .slice none 0 0, .slice none 0 0, .int .i64 0, .int .i64 0]) m1 4 (.int .i64 f4) rfl
  have N6 := row_grown N5 k2 hNQ
  have O6 := row_grown O5 k2 hQQ
  have B6 := hid (B5.out.grown k2 B5.out.size (fun k e => by cases e; exact hwQ))
  refine wpL_call rfl (fun K hK => ?_)
  go_wp2_with fail
  refine hK _ _ (N6.trans N5.symm) ?_
  clear hK K k2 q1 fz m1 N5 O5 B5
  try simp only [Act.put]
  refine wpL_nil ?_
  generalize U5.setCell ⟨Q, 4, none⟩ (.int .i64 f4) = U6 at *
  obtain ⟨m1, m2⟩ := set_whole (cs' := #[.int .i64 3, .int .i64 7, .string { data := #[] }, .int .i64 f3, .int .i64 f4, .int .i64 0, .slice none 0 0, .slice none 0 0, .int .i64 0, .int .i64 0]) O6
  have B7 := hid (B6.out.grown m2 B6.out.size (fun k e => by cases e; exact hwQ0))
  clear m2
  go_wp2_with (first | (with_reducible refine wpList_load_row (o := ⟨some 50, _, _, _, _, _⟩) rfl 60 _ rfl Q rfl 60 _ _ _ k1 Try.underlying60 rfl (by kernel_rfl) ?_) | (with_reducible refine at_store 60 ?_))
  unfold Hid
  refine wpList_store_row rfl 60 _ _ rfl Q0 #[.int .i64 3, .int .i64 7, .string { data := #[] }, .int .i64 f3, .int .i64 f4, .int .i64 0, .slice none 0 0, .slice none 0 0, .int .i64 0, .int .i64 0] rfl rfl 60 _ O6 (by kernel_rfl) rfl (by simp [Value.oneCell']) ?_
  have HM := hid m1
  clear m1
  go_wp2_with fail
  refine bodyPost_ret (results_c0 (fn := Try.f51) rfl _ _ Q0 60 _ _ rfl HM.out (by kernel_rfl) (by kernel_rfl)) rfl ?_
  exact ⟨rfl, by rw [HNe.out]; exact B7.out⟩

set_option maxRecDepth 1000000 in
set_option maxHeartbeats 4000000 in
theorem bare_ng (ga : Option Addr) (gn gc : Nat) (w : World) : Calls Try.prog 51 #[.agg #[.int .i64 4, .int .i64 7, .string { data := #[] }, .int .i64 0, .int .i64 0, .int .i64 0, .slice none 0 0, .slice ga gn gc, .int .i64 0, .int .i64 0]] w fun e w' => e = .returned (.agg #[.int .i64 4, .int .i64 7, .string { data := #[] }, .int .i64 0, .int .i64 0, .int .i64 0, .slice none 0 0, .slice ga gn gc, .int .i64 0, .int .i64 0]) ∧ Below w.heap.size w w' := by
  have b1 := below_alloc w (.cells #[.int .i64 4, .int .i64 7, .string { data := #[] }, .int .i64 0, .int .i64 0, .int .i64 0, .slice none 0 0, .slice ga gn gc, .int .i64 0, .int .i64 0] 60)
  have A1 := heap_alloc_new w (.cells #[.int .i64 4, .int .i64 7, .string { data := #[] }, .int .i64 0, .int .i64 0, .int .i64 0, .slice none 0 0, .slice ga gn gc, .int .i64 0, .int .i64 0] 60)
  generalize hV1 : w.alloc (.cells #[.int .i64 4, .int .i64 7, .string { data := #[] }, .int .i64 0, .int .i64 0, .int .i64 0, .slice none 0 0, .slice ga gn gc, .int .i64 0, .int .i64 0] 60) = V1 at *
  have b2 := below_alloc V1 (.cells #[.int .i64 0, .int .i64 0, .string { data := #[] }, .int .i64 0, .int .i64 0, .int .i64 0, .slice none 0 0, .slice none 0 0, .int .i64 0, .int .i64 0] 60)
  have A2 := heap_alloc_new V1 (.cells #[.int .i64 0, .int .i64 0, .string { data := #[] }, .int .i64 0, .int .i64 0, .int .i64 0, .slice none 0 0, .slice none 0 0, .int .i64 0, .int .i64 0] 60)
  have A1' := row_below A1 b2
  have B2 := hid (b1.trans (b2.mono b1.size))
  have hN : w.heap.size < V1.heap.size := row_lt A1
  go_enter Try.func51, Try.ntmps51
  refine wp_seq_k (fun K0 hK0 => ?_)
  go_wp2_with fail
  refine hK0.out _ _ ?_
  clear hV1 b1 A1
  generalize V1.alloc (.cells #[.int .i64 0, .int .i64 0, .string { data := #[] }, .int .i64 0, .int .i64 0, .int .i64 0, .slice none 0 0, .slice none 0 0, .int .i64 0, .int .i64 0] 60) = V2 at *
  obtain ⟨N, hNe⟩ : ∃ N, N = w.heap.size := ⟨_, rfl⟩
  obtain ⟨Q0, hQ0⟩ : ∃ Q0, Q0 = V1.heap.size := ⟨_, rfl⟩
  rw [← hQ0] at A2 hN ⊢
  rw [← hNe] at A1' hN ⊢
  have hw0 : w.heap.size ≤ N := Nat.le_of_eq hNe.symm
  have HNe := hid hNe
  clear hNe hQ0
  have c0 : V2.cell? ⟨N, 0, none⟩ = some (.int .i64 4) := by rw [cell_of_row _ _ _ _ _ _ A1']; rfl
  have c1 : V2.cell? ⟨N, 1, none⟩ = some (.int .i64 7) := by rw [cell_of_row _ _ _ _ _ _ A1']; rfl
  refine wp_seq_k (fun K1 hK1 => ?_)
  go_wp2_with fail
  refine hK1.out _ _ ?_
  clear b2
  have b3 := below_alloc V2 (.cells #[.int .i64 4, .int .i64 7, .string { data := #[] }, .int .i64 0, .int .i64 0, .int .i64 0, .slice none 0 0, .slice none 0 0, .int .i64 0, .int .i64 0] 60)
  have A3 := heap_alloc_new V2 (.cells #[.int .i64 4, .int .i64 7, .string { data := #[] }, .int .i64 0, .int .i64 0, .int .i64 0, .slice none 0 0, .slice none 0 0, .int .i64 0, .int .i64 0] 60)
  have A1'' := row_below A1' b3
  have A2' := row_below A2 b3
  have hQ : Q0 < V2.heap.size := row_lt A2
  have B3 := hid (B2.out.trans (b3.mono B2.out.size))
  generalize V2.alloc (.cells #[.int .i64 4, .int .i64 7, .string { data := #[] }, .int .i64 0, .int .i64 0, .int .i64 0, .slice none 0 0, .slice none 0 0, .int .i64 0, .int .i64 0] 60) = V3 at *
  obtain ⟨Q, hQe⟩ : ∃ Q, Q = V2.heap.size := ⟨_, rfl⟩
  rw [← hQe] at A3 hQ ⊢
  have hNQ : N ≠ Q := by omega
  have hQQ : Q0 ≠ Q := by omega
  have hNQ0 : N ≠ Q0 := by omega
  have hwQ : w.heap.size ≤ Q := by omega
  have hwQ0 : w.heap.size ≤ Q0 := by omega
  clear c0 c1 A1' A2 hQe b3 B2
  have c0 : V3.cell? ⟨N, 0, none⟩ = some (.int .i64 4) := by rw [cell_of_row _ _ _ _ _ _ A1'']; rfl
  have f1 : V3.cell? ⟨N, 7, none⟩ = some (.slice ga gn gc) := by rw [cell_of_row _ _ _ _ _ _ A1'']; rfl
  have q1 : V3.cell? ⟨Q, 7, none⟩ = some (.slice none 0 0) := by rw [cell_of_row _ _ _ _ _ _ A3]; rfl
  have fz := frozen_row A3 7
  obtain ⟨k1, m2⟩ := set_row (cs' := #[.int .i64 4, .int .i64 7, .string { data := #[] }, .int .i64 0, .int .i64 0, .int .i64 0, .slice none 0 0, .slice ga gn gc, .int .i64 0, .int .i64 0]) A3 7 (.slice ga gn gc) rfl
  have O6 := row_grown A2' m2 hQQ
  have B6 := hid (B3.out.grown m2 B3.out.size (fun k e => by cases e; exact hwQ))
  obtain ⟨m1, m2⟩ := set_whole (cs' := #[.int .i64 4, .int .i64 7, .string { data := #[] }, .int .i64 0, .int .i64 0, .int .i64 0, .slice none 0 0, .slice ga gn gc, .int .i64 0, .int .i64 0]) O6
  have B7 := hid (B6.out.grown m2 B6.out.size (fun k e => by cases e; exact hwQ0))
  clear m2
  go_wp2_with (first | (with_reducible refine wpList_load_row (o := ⟨some 50, _, _, _, _, _⟩) rfl 60 _ rfl Q rfl 60 _ _ _ k1 Try.underlying60 rfl (by kernel_rfl) ?_) | (with_reducible refine at_store 60 ?_))
  unfold Hid
  refine wpList_store_row rfl 60 _ _ rfl Q0 #[.int .i64 4, .int .i64 7, .string { data := #[] }, .int .i64 0, .int .i64 0, .int .i64 0, .slice none 0 0, .slice ga gn gc, .int .i64 0, .int .i64 0] rfl rfl 60 _ O6 (by kernel_rfl) rfl (by simp [Value.oneCell']) ?_
  have HM := hid m1
  clear m1
  go_wp2_with fail
  refine bodyPost_ret (results_c0 (fn := Try.f51) rfl _ _ Q0 60 _ _ rfl HM.out (by kernel_rfl) (by kernel_rfl)) rfl ?_
  exact ⟨rfl, by rw [HNe.out]; exact B7.out⟩

set_option maxRecDepth 1000000 in
set_option maxHeartbeats 4000000 in
theorem bare_nd (f9 : Int) (w : World) : Calls Try.prog 51 #[.agg #[.int .i64 5, .int .i64 7, .string { data := #[] }, .int .i64 0, .int .i64 0, .int .i64 0, .slice none 0 0, .slice none 0 0, .int .i64 0, .int .i64 f9]] w fun e w' => e = .returned (.agg #[.int .i64 5, .int .i64 7, .string { data := #[] }, .int .i64 0, .int .i64 0, .int .i64 0, .slice none 0 0, .slice none 0 0, .int .i64 0, .int .i64 f9]) ∧ Below w.heap.size w w' := by
  have b1 := below_alloc w (.cells #[.int .i64 5, .int .i64 7, .string { data := #[] }, .int .i64 0, .int .i64 0, .int .i64 0, .slice none 0 0, .slice none 0 0, .int .i64 0, .int .i64 f9] 60)
  have A1 := heap_alloc_new w (.cells #[.int .i64 5, .int .i64 7, .string { data := #[] }, .int .i64 0, .int .i64 0, .int .i64 0, .slice none 0 0, .slice none 0 0, .int .i64 0, .int .i64 f9] 60)
  generalize hV1 : w.alloc (.cells #[.int .i64 5, .int .i64 7, .string { data := #[] }, .int .i64 0, .int .i64 0, .int .i64 0, .slice none 0 0, .slice none 0 0, .int .i64 0, .int .i64 f9] 60) = V1 at *
  have b2 := below_alloc V1 (.cells #[.int .i64 0, .int .i64 0, .string { data := #[] }, .int .i64 0, .int .i64 0, .int .i64 0, .slice none 0 0, .slice none 0 0, .int .i64 0, .int .i64 0] 60)
  have A2 := heap_alloc_new V1 (.cells #[.int .i64 0, .int .i64 0, .string { data := #[] }, .int .i64 0, .int .i64 0, .int .i64 0, .slice none 0 0, .slice none 0 0, .int .i64 0, .int .i64 0] 60)
  have A1' := row_below A1 b2
  have B2 := hid (b1.trans (b2.mono b1.size))
  have hN : w.heap.size < V1.heap.size := row_lt A1
  go_enter Try.func51, Try.ntmps51
  refine wp_seq_k (fun K0 hK0 => ?_)
  go_wp2_with fail
  refine hK0.out _ _ ?_
  clear hV1 b1 A1
  generalize V1.alloc (.cells #[.int .i64 0, .int .i64 0, .string { data := #[] }, .int .i64 0, .int .i64 0, .int .i64 0, .slice none 0 0, .slice none 0 0, .int .i64 0, .int .i64 0] 60) = V2 at *
  obtain ⟨N, hNe⟩ : ∃ N, N = w.heap.size := ⟨_, rfl⟩
  obtain ⟨Q0, hQ0⟩ : ∃ Q0, Q0 = V1.heap.size := ⟨_, rfl⟩
  rw [← hQ0] at A2 hN ⊢
  rw [← hNe] at A1' hN ⊢
  have hw0 : w.heap.size ≤ N := Nat.le_of_eq hNe.symm
  have HNe := hid hNe
  clear hNe hQ0
  have c0 : V2.cell? ⟨N, 0, none⟩ = some (.int .i64 5) := by rw [cell_of_row _ _ _ _ _ _ A1']; rfl
  have c1 : V2.cell? ⟨N, 1, none⟩ = some (.int .i64 7) := by rw [cell_of_row _ _ _ _ _ _ A1']; rfl
  refine wp_seq_k (fun K1 hK1 => ?_)
  go_wp2_with fail
  refine hK1.out _ _ ?_
  clear b2
  have b3 := below_alloc V2 (.cells #[.int .i64 5, .int .i64 7, .string { data := #[] }, .int .i64 0, .int .i64 0, .int .i64 0, .slice none 0 0, .slice none 0 0, .int .i64 0, .int .i64 0] 60)
  have A3 := heap_alloc_new V2 (.cells #[.int .i64 5, .int .i64 7, .string { data := #[] }, .int .i64 0, .int .i64 0, .int .i64 0, .slice none 0 0, .slice none 0 0, .int .i64 0, .int .i64 0] 60)
  have A1'' := row_below A1' b3
  have A2' := row_below A2 b3
  have hQ : Q0 < V2.heap.size := row_lt A2
  have B3 := hid (B2.out.trans (b3.mono B2.out.size))
  generalize V2.alloc (.cells #[.int .i64 5, .int .i64 7, .string { data := #[] }, .int .i64 0, .int .i64 0, .int .i64 0, .slice none 0 0, .slice none 0 0, .int .i64 0, .int .i64 0] 60) = V3 at *
  obtain ⟨Q, hQe⟩ : ∃ Q, Q = V2.heap.size := ⟨_, rfl⟩
  rw [← hQe] at A3 hQ ⊢
  have hNQ : N ≠ Q := by omega
  have hQQ : Q0 ≠ Q := by omega
  have hNQ0 : N ≠ Q0 := by omega
  have hwQ : w.heap.size ≤ Q := by omega
  have hwQ0 : w.heap.size ≤ Q0 := by omega
  clear c0 c1 A1' A2 hQe b3 B2
  have c0 : V3.cell? ⟨N, 0, none⟩ = some (.int .i64 5) := by rw [cell_of_row _ _ _ _ _ _ A1'']; rfl
  have f1 : V3.cell? ⟨N, 9, none⟩ = some (.int .i64 f9) := by rw [cell_of_row _ _ _ _ _ _ A1'']; rfl
  have q1 : V3.cell? ⟨Q, 9, none⟩ = some (.int .i64 0) := by rw [cell_of_row _ _ _ _ _ _ A3]; rfl
  have fz := frozen_row A3 9
  obtain ⟨k1, m2⟩ := set_row (cs' := #[.int .i64 5, .int .i64 7, .string { data := #[] }, .int .i64 0, .int .i64 0, .int .i64 0, .slice none 0 0, .slice none 0 0, .int .i64 0, .int .i64 f9]) A3 9 (.int .i64 f9) rfl
  have O6 := row_grown A2' m2 hQQ
  have B6 := hid (B3.out.grown m2 B3.out.size (fun k e => by cases e; exact hwQ))
  obtain ⟨m1, m2⟩ := set_whole (cs' := #[.int .i64 5, .int .i64 7, .string { data := #[] }, .int .i64 0, .int .i64 0, .int .i64 0, .slice none 0 0, .slice none 0 0, .int .i64 0, .int .i64 f9]) O6
  have B7 := hid (B6.out.grown m2 B6.out.size (fun k e => by cases e; exact hwQ0))
  clear m2
  go_wp2_with (first | (with_reducible refine wpList_load_row (o := ⟨some 50, _, _, _, _, _⟩) rfl 60 _ rfl Q rfl 60 _ _ _ k1 Try.underlying60 rfl (by kernel_rfl) ?_) | (with_reducible refine at_store 60 ?_))
  unfold Hid
  refine wpList_store_row rfl 60 _ _ rfl Q0 #[.int .i64 5, .int .i64 7, .string { data := #[] }, .int .i64 0, .int .i64 0, .int .i64 0, .slice none 0 0, .slice none 0 0, .int .i64 0, .int .i64 f9] rfl rfl 60 _ O6 (by kernel_rfl) rfl (by simp [Value.oneCell']) ?_
  have HM := hid m1
  clear m1
  go_wp2_with fail
  refine bodyPost_ret (results_c0 (fn := Try.f51) rfl _ _ Q0 60 _ _ rfl HM.out (by kernel_rfl) (by kernel_rfl)) rfl ?_
  exact ⟨rfl, by rw [HNe.out]; exact B7.out⟩

set_option maxRecDepth 1000000 in
set_option maxHeartbeats 4000000 in
theorem bare_ns (f8 : Int) (w : World) : Calls Try.prog 51 #[.agg #[.int .i64 6, .int .i64 7, .string { data := #[] }, .int .i64 0, .int .i64 0, .int .i64 0, .slice none 0 0, .slice none 0 0, .int .i64 f8, .int .i64 0]] w fun e w' => e = .returned (.agg #[.int .i64 6, .int .i64 7, .string { data := #[] }, .int .i64 0, .int .i64 0, .int .i64 0, .slice none 0 0, .slice none 0 0, .int .i64 f8, .int .i64 0]) ∧ Below w.heap.size w w' := by
  have b1 := below_alloc w (.cells #[.int .i64 6, .int .i64 7, .string { data := #[] }, .int .i64 0, .int .i64 0, .int .i64 0, .slice none 0 0, .slice none 0 0, .int .i64 f8, .int .i64 0] 60)
  have A1 := heap_alloc_new w (.cells #[.int .i64 6, .int .i64 7, .string { data := #[] }, .int .i64 0, .int .i64 0, .int .i64 0, .slice none 0 0, .slice none 0 0, .int .i64 f8, .int .i64 0] 60)
  generalize hV1 : w.alloc (.cells #[.int .i64 6, .int .i64 7, .string { data := #[] }, .int .i64 0, .int .i64 0, .int .i64 0, .slice none 0 0, .slice none 0 0, .int .i64 f8, .int .i64 0] 60) = V1 at *
  have b2 := below_alloc V1 (.cells #[.int .i64 0, .int .i64 0, .string { data := #[] }, .int .i64 0, .int .i64 0, .int .i64 0, .slice none 0 0, .slice none 0 0, .int .i64 0, .int .i64 0] 60)
  have A2 := heap_alloc_new V1 (.cells #[.int .i64 0, .int .i64 0, .string { data := #[] }, .int .i64 0, .int .i64 0, .int .i64 0, .slice none 0 0, .slice none 0 0, .int .i64 0, .int .i64 0] 60)
  have A1' := row_below A1 b2
  have B2 := hid (b1.trans (b2.mono b1.size))
  have hN : w.heap.size < V1.heap.size := row_lt A1
  go_enter Try.func51, Try.ntmps51
  refine wp_seq_k (fun K0 hK0 => ?_)
  go_wp2_with fail
  refine hK0.out _ _ ?_
  clear hV1 b1 A1
  generalize V1.alloc (.cells #[.int .i64 0, .int .i64 0, .string { data := #[] }, .int .i64 0, .int .i64 0, .int .i64 0, .slice none 0 0, .slice none 0 0, .int .i64 0, .int .i64 0] 60) = V2 at *
  obtain ⟨N, hNe⟩ : ∃ N, N = w.heap.size := ⟨_, rfl⟩
  obtain ⟨Q0, hQ0⟩ : ∃ Q0, Q0 = V1.heap.size := ⟨_, rfl⟩
  rw [← hQ0] at A2 hN ⊢
  rw [← hNe] at A1' hN ⊢
  have hw0 : w.heap.size ≤ N := Nat.le_of_eq hNe.symm
  have HNe := hid hNe
  clear hNe hQ0
  have c0 : V2.cell? ⟨N, 0, none⟩ = some (.int .i64 6) := by rw [cell_of_row _ _ _ _ _ _ A1']; rfl
  have c1 : V2.cell? ⟨N, 1, none⟩ = some (.int .i64 7) := by rw [cell_of_row _ _ _ _ _ _ A1']; rfl
  refine wp_seq_k (fun K1 hK1 => ?_)
  go_wp2_with fail
  refine hK1.out _ _ ?_
  clear b2
  have b3 := below_alloc V2 (.cells #[.int .i64 6, .int .i64 7, .string { data := #[] }, .int .i64 0, .int .i64 0, .int .i64 0, .slice none 0 0, .slice none 0 0, .int .i64 0, .int .i64 0] 60)
  have A3 := heap_alloc_new V2 (.cells #[.int .i64 6, .int .i64 7, .string { data := #[] }, .int .i64 0, .int .i64 0, .int .i64 0, .slice none 0 0, .slice none 0 0, .int .i64 0, .int .i64 0] 60)
  have A1'' := row_below A1' b3
  have A2' := row_below A2 b3
  have hQ : Q0 < V2.heap.size := row_lt A2
  have B3 := hid (B2.out.trans (b3.mono B2.out.size))
  generalize V2.alloc (.cells #[.int .i64 6, .int .i64 7, .string { data := #[] }, .int .i64 0, .int .i64 0, .int .i64 0, .slice none 0 0, .slice none 0 0, .int .i64 0, .int .i64 0] 60) = V3 at *
  obtain ⟨Q, hQe⟩ : ∃ Q, Q = V2.heap.size := ⟨_, rfl⟩
  rw [← hQe] at A3 hQ ⊢
  have hNQ : N ≠ Q := by omega
  have hQQ : Q0 ≠ Q := by omega
  have hNQ0 : N ≠ Q0 := by omega
  have hwQ : w.heap.size ≤ Q := by omega
  have hwQ0 : w.heap.size ≤ Q0 := by omega
  clear c0 c1 A1' A2 hQe b3 B2
  have c0 : V3.cell? ⟨N, 0, none⟩ = some (.int .i64 6) := by rw [cell_of_row _ _ _ _ _ _ A1'']; rfl
  have f1 : V3.cell? ⟨N, 8, none⟩ = some (.int .i64 f8) := by rw [cell_of_row _ _ _ _ _ _ A1'']; rfl
  have q1 : V3.cell? ⟨Q, 8, none⟩ = some (.int .i64 0) := by rw [cell_of_row _ _ _ _ _ _ A3]; rfl
  have fz := frozen_row A3 8
  obtain ⟨k1, m2⟩ := set_row (cs' := #[.int .i64 6, .int .i64 7, .string { data := #[] }, .int .i64 0, .int .i64 0, .int .i64 0, .slice none 0 0, .slice none 0 0, .int .i64 f8, .int .i64 0]) A3 8 (.int .i64 f8) rfl
  have O6 := row_grown A2' m2 hQQ
  have B6 := hid (B3.out.grown m2 B3.out.size (fun k e => by cases e; exact hwQ))
  obtain ⟨m1, m2⟩ := set_whole (cs' := #[.int .i64 6, .int .i64 7, .string { data := #[] }, .int .i64 0, .int .i64 0, .int .i64 0, .slice none 0 0, .slice none 0 0, .int .i64 f8, .int .i64 0]) O6
  have B7 := hid (B6.out.grown m2 B6.out.size (fun k e => by cases e; exact hwQ0))
  clear m2
  go_wp2_with (first | (with_reducible refine wpList_load_row (o := ⟨some 50, _, _, _, _, _⟩) rfl 60 _ rfl Q rfl 60 _ _ _ k1 Try.underlying60 rfl (by kernel_rfl) ?_) | (with_reducible refine at_store 60 ?_))
  unfold Hid
  refine wpList_store_row rfl 60 _ _ rfl Q0 #[.int .i64 6, .int .i64 7, .string { data := #[] }, .int .i64 0, .int .i64 0, .int .i64 0, .slice none 0 0, .slice none 0 0, .int .i64 f8, .int .i64 0] rfl rfl 60 _ O6 (by kernel_rfl) rfl (by simp [Value.oneCell']) ?_
  have HM := hid m1
  clear m1
  go_wp2_with fail
  refine bodyPost_ret (results_c0 (fn := Try.f51) rfl _ _ Q0 60 _ _ rfl HM.out (by kernel_rfl) (by kernel_rfl)) rfl ?_
  exact ⟨rfl, by rw [HNe.out]; exact B7.out⟩
end Go.Proofs.Ytopmamgdfngdoaa
