/- A hand's step: the walk. -/
import Derived.Test.YtkngoomkmbkenaaOnce12
namespace Go.Proofs.Ytkngoomkmbkenaa
set_option linter.unusedVariables false
open Go.RowKit

theorem stepH_tail (ah pt pz : Nat) (h : HS) (hd : Bool) (dr : Nat) (dw da : Bool) (hl : h.hl = false) :
    stepH ah pt pz h hd dr dw da = tailH ah pt pz (midH pz h hd dr) (hd && dw) (hd && da) := by
  unfold stepH tailH
  rw [if_neg (by rw [hl]; exact fun h => Bool.noConfusion h)]
  cases hd
  · rfl
  · rfl
/-- a status that may be read -/
def StO (st : Int) (dr : Nat) (dw da : Bool) (er : Int) : Prop := (st = 0 ∧ dr = 0 ∧ dw = false ∧ da = false ∧ er = 8) ∨ (st = (stV dr dw da : Nat) ∧ dr ≤ 100 ∧ er = 0)
theorem read_any (st : Int) (dr : Nat) (dw da : Bool) (er : Int) (h : StO st dr dw da er) (w : World) : Calls Try.prog 35 #[.int .i64 st] w fun e w' => e = .returned (.tuple #[stG dr dw da, .int .i64 er]) ∧ Below w.heap.size w w' := by
  rcases h with ⟨rfl, rfl, rfl, rfl, rfl⟩ | ⟨rfl, h1, rfl⟩
  · exact read_0 w
  · exact read_st dr dw da h1 w
/-- a block of another type is stored to; what is to stay is named anew -/
theorem XM.keep {W W' : World} {X B k T : Nat} {x : WS} {cs : Array Value} (h : XM W X B x) (hg : W.grownBy W' (some k)) (hk : W.heap[k]? = some (.cells cs T)) (h1 : 31 ≠ T) (h2 : T ≠ 5) (h3 : 63 ≠ T) (L : List (Nat × Array Value)) (hL : ∀ p ∈ L, W'.heap[p.1]? = some (.cells p.2 25)) : XM W' X B { x with ks := L } :=
  ⟨row_grown h.bx hg (ne_tt h.bx hk h3), (h.ro.other hg hk h1 h2).numS rfl rfl rfl rfl rfl rfl rfl rfl rfl, hL⟩
theorem XM.named {W : World} {X B : Nat} {x : WS} (h : XM W X B x) (L : List (Nat × Array Value)) (hL : ∀ p ∈ L, W.heap[p.1]? = some (.cells p.2 25)) : XM W X B { x with ks := L } :=
  ⟨h.bx, h.ro.numS rfl rfl rfl rfl rfl rfl rfl rfl rfl, hL⟩
theorem WL.named {ah pt pz : Nat} {h : HS} {x : WS} (H : WL ah pt pz h x) (L : List (Nat × Array Value)) : WL ah pt pz h { x with ks := L } :=
  ⟨H.N, H.sn, H.qn, H.S, H.Q, H.tm, H.tr, H.si, H.ha, H.ah, H.pt, H.pz⟩
set_option maxRecDepth 1000000 in
set_option maxHeartbeats 8000000 in
theorem stp1_ok (ah pt pz X B D E dr : Nat) (st er : Int) (hd dw da : Bool) (h : HS) (x : WS) (r : Nat) (w : World) (hB : B ≤ X) (hM : XM w X B x) (H : WL ah pt pz h x) (hk : HOk ah pt pz r h) (hah1 : ah ≤ 100) (hpt0 : 0 < pt) (hpt : pt ≤ 1000) (hpz : pz ≤ 1000) (hgn : x.gn ≤ 40000)
    (hD : w.heap[D]? = some (.cells #[.int .i64 st] 3)) (hE : w.heap[E]? = some (.cells #[.bool hd] 4)) (hst : StO st dr dw da er) (her : hd = true → er = 0) (hdr : dr ≤ r) (hdb : hd = true → h.b ≤ dr) :
    Calls Try.prog 34 #[.pointer (some ⟨X, 0, none⟩), .pointer (some ⟨D, 0, none⟩), .pointer (some ⟨E, 0, none⟩)] w fun e w' => e = .returned (.int .i64 0) ∧ StpR ah pt pz w w' X B x (stepH ah pt pz h hd dr dw da) := by
  have HH := hid H
  have HK := hid hk
  have HM := hid hM
  have HD := hid hD
  have HE := hid hE
  have Hst := hid hst
  have HlB := hid (show B ≤ w.heap.size from Nat.le_trans hB (Nat.le_of_lt (row_lt hM.bx)))
  have x11 : w.cell? ⟨X, 11, none⟩ = some (.int .i64 (x.ha : Int)) := by rw [cell_of_row _ _ _ _ _ _ hM.bx]; rfl
  have hha := H.ha
  clear H hk hM hD hE hst
  cases hl : h.hl with
  | true =>
    have hsh : stepH ah pt pz h hd dr dw da = (h, []) := by unfold stepH; rw [if_pos hl]
    rw [hsh]
    rw [hl, if_pos rfl] at hha
    rw [hha] at x11
    go_enter Try.func34, Try.ntmps34
    go_wp2_with fail
    go_ret
    exact ⟨rfl, ⟨x, HM.out, HH.out, by rw [cmds_nil, List.append_nil], rfl⟩, Below.refl _ _⟩
  | false =>
    rw [stepH_tail ah pt pz h hd dr dw da hl]
    rw [hl, if_neg (fun h => Bool.noConfusion h)] at hha
    rw [hha] at x11
    clear hha
    go_enter Try.func34, Try.ntmps34
    refine wp_seq_k (fun K0 hK0 => ?_)
    go_wp2_with fail
    refine hK0.out _ _ ?_
    refine wp_seq_k (fun K1 hK1 => ?_)
    go_wp2_with fail
    refine hK1.out _ _ ?_
    clear x11
    refine wp_seq_k (fun K2 hK2 => ?_)
    obtain ⟨s, hs⟩ : ∃ s, s = min (h.si + 1) pz := ⟨_, rfl⟩
    have hxsi := HH.out.si
    have hxpz := HH.out.pz
    have hsi0 := HK.out.si
    have a1 : IntKind.i64.wrap ((h.si : Int) + 1) = (h.si : Int) + 1 := IntWalk.i64_in _ (by omega)
    have a2 : (if (pz : Int) < (h.si : Int) + 1 then (pz : Int) else (h.si : Int) + 1) = (s : Int) := by split <;> omega
    have Hs := hid hs
    clear hs
    refine wp_region_can 16 [] [0, 1, 2, 3, 4, 5, 6, 7, 8, 9, 10, 11, 12, 13, 14, 15] (fun u u' => u' = u) (fun u => rfl) (fun _ _ _ h k => Eq.trans k h) (by kernel_rfl) (by kernel_rfl) ?_
    simp only [List.map_cons, List.map_nil, List.contains_nil, List.getD_cons_zero, List.getD_cons_succ]
    have HM1 := hid (HM.out.below ((Below.refl _ w).drew))
    have HB1 := hid ((Below.refl B w).drew)
    have HD1 : Hid (w.drew.heap[D]? = _) := HD
    have HE1 : Hid (w.drew.heap[E]? = _) := HE
    clear HM HD HE
    generalize w.drew = U at *
    have x9 : ∀ w', w' = U → w'.cell? ⟨X, 9, none⟩ = some (.int .i64 (h.si : Int)) := fun w' h => by rw [h, cell_of_row _ _ _ _ _ _ HM1.out.bx, ← hxsi]; rfl
    have x10 : ∀ w', w' = U → w'.cell? ⟨X, 10, none⟩ = some (.int .i64 (pz : Int)) := fun w' h => by rw [h, cell_of_row _ _ _ _ _ _ HM1.out.bx, ← hxpz]; rfl
    iterate 16 (refine wpL_do rfl (fun w' hw' => (by go_simp; rfl)) ?_; simp only [Act.put, List.setIfInBounds_toArray, List.set_cons_succ, List.set_cons_zero])
    refine wpL_nil ?_
    clear x10 a1 a2
    simp only [List.drop_succ_cons, List.drop_zero]
    have x9b := x9 U rfl
    clear x9
    have fz := frozen_row HM1.out.bx 9
    obtain ⟨s1, s2⟩ := HM1.out.num 9 (.int .i64 (s : Int)) { x with si := s } rfl rfl rfl rfl rfl rfl rfl rfl rfl rfl
    have HM2 := hid s1
    have HB2 := hid (HB1.out.grown s2 (Nat.le_trans HlB.out HB1.out.size) (fun k e => by cases e; exact hB))
    have HD2 := hid (row_grown HD1.out s2 (ne_tt HD1.out HM1.out.bx (by decide)))
    have HE2 := hid (row_grown HE1.out s2 (ne_tt HE1.out HM1.out.bx (by decide)))
    clear s1 s2
    go_wp2_with fail
    refine hK2.out _ _ ?_
    clear x9b fz HM1 HD1 HE1 HB1
    generalize U.setCell ⟨X, 9, none⟩ (.int .i64 (s : Int)) = V at *
    have d0 : V.cell? ⟨D, 0, none⟩ = some (.int .i64 st) := by rw [cell_of_row _ _ _ _ _ _ HD2.out]; rfl
    have hrd := hid (read_any st dr dw da er Hst.out V)
    refine wp_seq_k (fun K3 hK3 => ?_)
    go_wp2_with fail
    refine hrd.out.mono ?_
    rintro e V2 ⟨rfl, hb2⟩
    have bN := below_alloc V2 (.cells #[.int .i64 0, .int .i64 (dr : Int), .int .i64 0, .bool false, .bool dw, .bool da, .int .i64 0] 25)
    have HG := hid (heap_alloc_new V2 (.cells #[.int .i64 0, .int .i64 (dr : Int), .int .i64 0, .bool false, .bool dw, .bool da, .int .i64 0] 25))
    have hb3 := hb2.trans (bN.mono hb2.size)
    have HM3 := hid (HM2.out.below hb3)
    have HE3 := hid (row_below HE2.out hb3)
    have HB3 := hid (HB2.out.trans (hb3.mono (Nat.le_trans HlB.out HB2.out.size)))
    have hBG2 : B ≤ V2.heap.size := Nat.le_trans (Nat.le_trans HlB.out HB2.out.size) hb2.size
    clear bN hb2 hb3 hrd d0 HM2 HE2 HD2 HB2
    unfold stG
    go_wp2_with fail
    refine hK3.out _ _ ?_
    obtain ⟨G, hG⟩ : ∃ G, G = V2.heap.size := ⟨_, rfl⟩
    rw [← hG] at HG hBG2 ⊢
    clear hG
    generalize V2.alloc (.cells #[.int .i64 0, .int .i64 (dr : Int), .int .i64 0, .bool false, .bool dw, .bool da, .int .i64 0] 25) = V3 at *
    have e0 : V3.cell? ⟨E, 0, none⟩ = some (.bool hd) := by rw [cell_of_row _ _ _ _ _ _ HE3.out]; rfl
    refine wp_seq_k (fun K4 hK4 => ?_)
    refine wp_seq_k (fun K5 hK5 => ?_)
    have hHs : WL ah pt pz { h with si := s } { x with si := s } := by rw [Hs.out]; exact HH.out.si'
    have hgl := row_lt HG.out
    have hBG : B ≤ V3.heap.size := Nat.le_trans hB (Nat.le_of_lt (row_lt HM3.out.bx))
    cases hd with
    | false =>
      have hmid : midH pz h false dr = { h with si := s } := by unfold midH; rw [if_neg (fun h => Bool.noConfusion h), Hs.out]
      rw [hmid]
      have hmo := HK.out.mid hpt0 false dr hdr
      rw [hmid] at hmo
      have Hmo := hid hmo
      clear hmo
      obtain ⟨_, g0, g1, g2, g3, g4, g5, g6⟩ := gtAt_row (g := ⟨0, (dr : Int), 0, false, dw, da, 0⟩) HG.out
      have fz := frozen_row HG.out
      have hsv := seven HG.out (.int .i64 0) (.int .i64 0) (.int .i64 0) (.bool false) (.bool false) (.bool false) (.int .i64 0)
      have hgv := grown7 V3 G (.int .i64 0) (.int .i64 0) (.int .i64 0) (.bool false) (.bool false) (.bool false) (.int .i64 0)
      have HSv := hid hsv
      have HGv := hid hgv
      have HHs := hid hHs
      have Hmid := hid hmid
      clear hsv hgv hHs hmid
      go_wp2_with fail
      refine hK5.out _ _ ?_
      clear e0
      go_wp2_with fail
      refine hK4.out _ _ ?_
      clear g0 g1 g2 g3 g4 g5 g6 fz
      have HM4 := hid (HM3.out.keep HGv.out HG.out (by decide) (by decide) (by decide) [(G, #[.int .i64 0, .int .i64 ((0 : Nat) : Int), .int .i64 0, .bool false, .bool false, .bool false, .int .i64 0])] (fun p hp => by rw [List.mem_singleton] at hp; subst hp; exact HSv.out))
      have HB4 := hid (HB3.out.grown HGv.out hBG (fun k e => by cases e; exact hBG2))
      generalize ((((((V3.setCell ⟨G, 0, none⟩ (.int .i64 0)).setCell ⟨G, 1, none⟩ (.int .i64 0)).setCell ⟨G, 2, none⟩ (.int .i64 0)).setCell ⟨G, 3, none⟩ (.bool false)).setCell ⟨G, 4, none⟩ (.bool false)).setCell ⟨G, 5, none⟩ (.bool false)).setCell ⟨G, 6, none⟩ (.int .i64 0) = V4 at *
      refine use_fr (N := 94) rfl ?_
      refine stp_t ah pt pz X B G 0 false false { h with si := s } _ hB (HHs.out.named _) (Nat.le_trans Hmo.out.br Hmo.out.rN) Hmo.out.NA Hmo.out.A1 Hmo.out.ah hah1 Hmo.out.tm hpt Hmo.out.tr hl hgn (List.mem_singleton.2 rfl) _ _ V4 rfl rfl HM4.out (fun y' w' h4 hS => ?_)
      rw [fr94]
      simp only [h4]
      go_ret
      obtain ⟨⟨x', j1, j2, j3, j4⟩, j5⟩ := hS
      rw [Hmid.out]
      exact ⟨rfl, ⟨x', j1, j2, j3, j4⟩, HB4.out.trans j5⟩
    | true =>
      obtain rfl := her rfl
      have hmid : midH pz h true dr = hearH { h with si := s } dr := by unfold midH; rw [if_pos rfl, Hs.out]
      have hmo := HK.out.mid hpt0 true dr hdr
      rw [hmid] at hmo
      have Hmo := hid hmo
      have hbd := hdb rfl
      obtain ⟨t, ht⟩ : ∃ t, t = dr - h.b := ⟨_, rfl⟩
      have hxN : x.N = h.N := HH.out.N
      have hxs : x.sn = h.N - h.b := HH.out.sn
      have hbr := HK.out.br
      have hrN := HK.out.rN
      have hNA := HK.out.NA
      have hA1 := HK.out.A1
      have hhl : (hearH { h with si := s } dr).hl = h.hl := by unfold hearH; split <;> rfl
      have hM4 := HM3.out.named [(G, #[.int .i64 0, .int .i64 (dr : Int), .int .i64 0, .bool false, .bool dw, .bool da, .int .i64 0])] (fun p hp => by rw [List.mem_singleton] at hp; subst hp; exact HG.out)
      have hhe := hid (hea_ok X B _ dr t dw da V3 hM4 hB (by show x.N ≤ 100; omega) (by show x.sn ≤ x.N; omega) (by show x.N - x.sn ≤ dr; omega) (by show dr ≤ x.N; omega) (by show t = dr - (x.N - x.sn); omega))
      have HWh := hid (fun sa sc => (hHs.named [(G, #[.int .i64 0, .int .i64 (dr : Int), .int .i64 0, .bool false, .bool dw, .bool da, .int .i64 0])]).hear dr t hbd (by show dr ≤ h.N; omega) ht sa sc)
      obtain ⟨_, g0, g1, g2, g3, g4, g5, g6⟩ := gtAt_row (g := ⟨0, (dr : Int), 0, false, dw, da, 0⟩) HG.out
      have Hmid := hid hmid
      clear hHs hmid hmo hM4 ht hxs
      go_wp2_with fail
      refine hK5.out _ _ ?_
      clear e0
      go_wp2_with fail
      refine hhe.out.mono ?_
      rintro e V4 ⟨⟨sa, sc, rfl, hM5⟩, hb5⟩
      go_wp2_with fail
      refine hK4.out _ _ ?_
      clear g0 g1 g2 g3 g4 g5 g6
      have HM5 := hid hM5
      have HB5 := hid (HB3.out.trans hb5)
      clear hM5 hb5 hhe
      have hW5 := HWh.out sa sc
      refine use_fr (N := 94) rfl ?_
      refine stp_t ah pt pz X B G dr dw da (hearH { h with si := s } dr) _ hB hW5 (Nat.le_trans Hmo.out.br Hmo.out.rN) Hmo.out.NA Hmo.out.A1 Hmo.out.ah hah1 Hmo.out.tm hpt Hmo.out.tr (hhl.trans hl) hgn (List.mem_singleton.2 rfl) _ _ V4 rfl rfl HM5.out (fun y' w' h4 hS => ?_)
      rw [fr94]
      simp only [h4]
      go_ret
      obtain ⟨⟨x', j1, j2, j3, j4⟩, j5⟩ := hS
      rw [Hmid.out]
      exact ⟨rfl, ⟨x', j1, j2, j3, j4⟩, HB5.out.trans j5⟩
end Go.Proofs.Ytkngoomkmbkenaa
/- with, at any hand and any work. -/
namespace Go.Proofs.Ytkngoomkmbkenaa
set_option linter.unusedVariables false
open Go.RowKit

/-- a hand at work, begun: its rows are fresh -/
def WS.begun (x : WS) (sa : Option Addr) (sc : Nat) (R1 : List RB) (qa : Option Addr) (qc : Nat) (R2 : List RB) : WS :=
  { x with sa := sa, sc := sc, Rs := R1, qa := qa, qc := qc, Rq := R2, ga := none, gn := 0, gc := 0, Rg := [], ks := [] }
structure GenR (W0 W : World) (R : Int → WS → Prop) (e : Ending) : Prop where
  ex : ∃ er x2, e = .returned (.tuple #[.agg x2.hand, .slice x2.ga x2.gn x2.gc, .int .i64 er]) ∧ R er x2 ∧ RO W W0.heap.size x2
  blw : Below W0.heap.size W0 W
set_option maxRecDepth 1000000 in
set_option maxHeartbeats 8000000 in
theorem gen_ok (fn : Nat) (hfn : fn = 33 ∨ fn = 34) (caps : Array Value) (R : Int → WS → Prop) (x : WS) (w : World) (hn : HN x.N x.ah x.tm x.pt x.tr x.si x.pz (x.ha : Int) x.sn x.qn) (hs : PkT w x.sa x.sn x.sc x.Rs) (hq : PkT w x.qa x.qn x.qc x.Rq) (hl1 : ∀ r ∈ x.Rs, 1 ≤ r.2.length ∧ r.2.length ≤ 1017) (hl2 : ∀ r ∈ x.Rq, 1 ≤ r.2.length ∧ r.2.length ≤ 1017)
    (hf : ∀ X B w1 sa sc R1 qa qc R2, w.heap.size ≤ B → B ≤ X → Below w.heap.size w w1 → XM w1 X B (x.begun sa sc R1 qa qc R2) → conts R1 = conts x.Rs → conts R2 = conts x.Rq →
      Calls Try.prog fn (#[.pointer (some ⟨X, 0, none⟩)] ++ caps) w1 fun e w2 => ∃ er x2, e = .returned (.int .i64 er) ∧ R er x2 ∧ XM w2 X B x2 ∧ Below B w1 w2) :
    Calls Try.prog 18 #[.agg x.hand, .func (.func fn) #[] caps] w fun e w' => GenR w w' R e := by
  have hsn := hn.hsn
  have hah := hn.ah2
  have hqn := hn.hqn
  have A := heap_alloc_new w (.cells x.hand 36)
  have BA := below_alloc w (.cells x.hand 36)
  have A2 := heap_alloc_new (w.alloc (.cells x.hand 36)) (.cells (hcells 0 0 0 (.slice none 0 0) (.slice none 0 0) 0 0 0 0 0 0 0) 36)
  have BA2 := below_alloc (w.alloc (.cells x.hand 36)) (.cells (hcells 0 0 0 (.slice none 0 0) (.slice none 0 0) 0 0 0 0 0 0 0) 36)
  simp only [World.size_alloc] at A2
  have HS := hid hs
  have HQ := hid hq
  have HL1 := hid hl1
  have HL2 := hid hl2
  have HN' := hid hn
  have HF := hid hf
  have HA := hid (row_below A BA2)
  have HA2 := hid A2
  have HB := hid (BA.trans (BA2.mono BA.size))
  clear hs hq hl1 hl2 hn hf A A2 BA BA2
  unfold hcells WS.hand at *
  obtain ⟨P, hP⟩ : ∃ P, P = w.heap.size := ⟨_, rfl⟩
  rw [← hP] at HA HA2 HB
  go_enter Try.func18, Try.ntmps18
  refine wp_seq_k (fun K0 hK0 => ?_)
  go_wp2_with fail
  refine hK0.out _ _ ?_
  rw [← hP]
  have HP := hid hP
  clear hP
  generalize (w.alloc (.cells #[.int .i64 3, .int .i64 (x.N : Int), .int .i64 (x.ah : Int), .slice x.sa x.sn x.sc, .slice x.qa x.qn x.qc, .int .i64 (x.tm : Int), .int .i64 (x.pt : Int), .int .i64 (x.tr : Int), .int .i64 100, .int .i64 (x.si : Int), .int .i64 (x.pz : Int), .int .i64 (x.ha : Int)] 36)).alloc (.cells #[.int .i64 0, .int .i64 0, .int .i64 0, .slice none 0 0, .slice none 0 0, .int .i64 0, .int .i64 0, .int .i64 0, .int .i64 0, .int .i64 0, .int .i64 0, .int .i64 0] 36) = W at *
  obtain ⟨c0, c1, c2, c3, c4, c5, c6, c7, c8, c9, c10, c11⟩ := hAt_row (show W.heap[P]? = some (.cells (hcells 3 (x.N : Int) (x.ah : Int) (.slice x.sa x.sn x.sc) (.slice x.qa x.qn x.qc) (x.tm : Int) (x.pt : Int) (x.tr : Int) 100 (x.si : Int) (x.pz : Int) (x.ha : Int)) 36) from HA.out)
  have hrd := hid (ready_ok x.N x.ah x.tm x.pt x.tr x.si x.pz (x.ha : Int) x.sa x.qa x.sn x.sc x.qn x.qc x.Rs x.Rq W HN'.out (HS.out.below (by rw [← HP.out]; exact HB.out)) (HQ.out.below (by rw [← HP.out]; exact HB.out)) HL1.out HL2.out)
  unfold hcells at hrd
  refine wp_seq_k (fun K1 hK1 => ?_)
  refine wp_seq_k (fun K2 hK2 => ?_)
  go_wp2_with fail
  refine hrd.out.mono ?_
  rintro e V ⟨rfl, b1⟩
  have HAV := hid (row_below HA.out b1)
  have HA2V := hid (row_below HA2.out b1)
  have HBV := hid (HB.out.trans (b1.mono (by rw [HP.out]; exact HB.out.size)))
  clear b1 hrd c0 c1 c2 c3 c4 c5 c6 c7 c8 c9 c10 c11 HA HA2 HB
  go_wp2_with fail
  refine hK2.out _ _ ?_
  go_wp2_with fail
  refine hK1.out _ _ ?_
  refine wp_seq_k (fun K3 hK3 => ?_)
  refine wp_region_late [7, 9] [2, 5, 7, 9] [(true, [0, 1, 3, 4, 2, 6, 5]), (false, [7, 8, 9])] Ext (fun _ _ => True) Ext.refl Ext.trans (fun _ => trivial) (fun _ _ _ _ _ => trivial) (fun _ _ _ => trivial) (by kernel_rfl) (by kernel_rfl) ?_
  simp only [wpPh, List.map_cons, List.map_nil, List.contains_cons, List.contains_nil, List.getD_cons_zero, List.getD_cons_succ, Nat.reduceBEq, Bool.or_false, Bool.or_true]
  have HAU : Hid (V.drew.heap[P]? = _) := HAV
  have HA2U : Hid (V.drew.heap[P + 1]? = _) := HA2V
  have HBU := hid (HBV.out.trans ((Below.refl P V).drew))
  clear HAV HA2V HBV
  generalize V.drew = U at *
  have k3 : ∀ w', Ext U w' → w'.cell? ⟨P, 3, none⟩ = some (.slice x.sa x.sn x.sc) := fun w' hk => by rw [cell_of_row _ _ _ _ _ _ (row_below HAU.out hk)]; rfl
  have k4 : ∀ w', Ext U w' → w'.cell? ⟨P, 4, none⟩ = some (.slice x.qa x.qn x.qc) := fun w' hk => by rw [cell_of_row _ _ _ _ _ _ (row_below HAU.out hk)]; rfl
  iterate 4 (refine wpL_do rfl (fun w' hw' => (by go_simp; rfl)) ?_; simp only [Act.put, List.setIfInBounds_toArray, List.set_cons_succ, List.set_cons_zero])
  clear k3 k4
  have hc1 := hid (clones_ok x.sa x.sn x.sc x.Rs U (HS.out.below (by rw [← HP.out]; exact HBU.out)) (by omega) (fun r hr => Nat.le_trans (HL1.out r hr).2 (by decide)))
  refine wpL_call rfl (fun K hK => ?_)
  go_wp2_with fail
  refine hc1.out.mono ?_
  rintro e V1 ⟨⟨sa, sc, R1, rfl, o1, kc1, r1⟩, hb1⟩
  refine hK _ _ hb1 ?_
  clear hK K hc1
  try simp only [Act.put, List.setIfInBounds_toArray, List.set_cons_succ, List.set_cons_zero]
  iterate 1 (refine wpL_do rfl (fun w' hw' => (by go_simp; rfl)) ?_; simp only [Act.put, List.setIfInBounds_toArray, List.set_cons_succ, List.set_cons_zero])
  have Ho1 := hid (OwnAt.of o1)
  have Hk1 := hid kc1
  have Hr1 := hid r1
  have Hb1 := hid hb1
  have HA1 := hid (row_below HAU.out hb1)
  have HA21 := hid (row_below HA2U.out hb1)
  have HB1 := hid (HBU.out.trans (hb1.mono (by rw [HP.out]; exact HBU.out.size)))
  clear o1 kc1 r1 hb1
  have hP1U := row_lt HA2U.out
  clear HA2U
  have hlP := row_lt HAU.out
  clear HAU
  have hUP2 : P + 1 < U.heap.size := hP1U
  have hc2 := hid (clones_ok x.qa x.qn x.qc x.Rq V1 (HQ.out.below (by rw [← HP.out]; exact HB1.out)) (by omega) (fun r hr => Nat.le_trans (HL2.out r hr).2 (by decide)))
  refine wpL_call rfl (fun K hK => ?_)
  go_wp2_with fail
  refine hc2.out.mono ?_
  rintro e V2 ⟨⟨qa, qc, R2, rfl, o2, kc2, r2⟩, hb2⟩
  refine hK _ _ hb2 ?_
  clear hK K hc2
  try simp only [Act.put, List.setIfInBounds_toArray, List.set_cons_succ, List.set_cons_zero]
  refine wpL_nil ?_
  have Ho1' := hid (Ho1.out.below hb2)
  have Hlt1 := hid (fun k (hk : (Value.slice sa x.sn sc).ownBlock = some k) => (Ho1.out.lt k hk).2)
  have Hr1' : Hid (RR V2 U.heap.size R1) := fun r hr => ⟨(Hr1.out r hr).1.below hb2, (Hr1.out r hr).2⟩
  have Ho2 := hid (OwnAt.of o2)
  have Hk2 := hid kc2
  have Hr2 : Hid (RR V2 U.heap.size R2) := fun r hr => ⟨(r2 r hr).1, (r2 r hr).2.mono Hb1.out.size⟩
  have HA2' := hid (row_below HA1.out hb2)
  have HA22 := hid (row_below HA21.out hb2)
  have HB2 := hid (HB1.out.trans (hb2.mono (by rw [HP.out]; exact HB1.out.size)))
  have hU1 := Hb1.out.size
  have h12 := hb2.size
  clear o2 kc2 r2 hb2 Ho1 Hr1 Hb1 HA1 HA21 HB1
  have HRO2 : Hid (RO V2 U.heap.size (x.begun sa sc R1 qa qc R2)) := by
    refine ⟨Ho1'.out, Ho2.out.mono hU1, OwnAt.nil _ _ _, Hr1'.out, Hr2.out, RR.nil _ _, fun k h1 h2 => ?_, fun k h1 h2 => (by cases h2), fun k h1 h2 => (by cases h2)⟩
    have a := Hlt1.out k h1
    have b := (Ho2.out.lt k h2).1
    omega
  clear Ho1' Hlt1 Hr1' Ho2 Hr2
  have x3 : V2.cell? ⟨P, 3, none⟩ = some (.slice x.sa x.sn x.sc) := by rw [cell_of_row _ _ _ _ _ _ HA2'.out]; rfl
  have fz := frozen_row HA2'.out 3
  obtain ⟨s1, s2⟩ := set_row (cs' := #[.int .i64 3, .int .i64 (x.N : Int), .int .i64 (x.ah : Int), .slice sa x.sn sc, .slice x.qa x.qn x.qc, .int .i64 (x.tm : Int), .int .i64 (x.pt : Int), .int .i64 (x.tr : Int), .int .i64 100, .int .i64 (x.si : Int), .int .i64 (x.pz : Int), .int .i64 (x.ha : Int)]) HA2'.out 3 (.slice sa x.sn sc) rfl
  obtain ⟨s3, s4⟩ := set_row (cs' := #[.int .i64 3, .int .i64 (x.N : Int), .int .i64 (x.ah : Int), .slice sa x.sn sc, .slice qa x.qn qc, .int .i64 (x.tm : Int), .int .i64 (x.pt : Int), .int .i64 (x.tr : Int), .int .i64 100, .int .i64 (x.si : Int), .int .i64 (x.pz : Int), .int .i64 (x.ha : Int)]) s1 4 (.slice qa x.qn qc) rfl
  refine wpL_call rfl (fun K hK => ?_)
  go_wp2_with fail
  refine hK _ _ trivial ?_
  clear hK K x3 fz
  try simp only [Act.put, List.setIfInBounds_toArray, List.set_cons_succ, List.set_cons_zero]
  iterate 1 (refine wpL_do rfl (fun w' hw' => (by go_simp; rfl)) ?_; simp only [Act.put, List.setIfInBounds_toArray, List.set_cons_succ, List.set_cons_zero])
  have x4 : (V2.setCell ⟨P, 3, none⟩ (.slice sa x.sn sc)).cell? ⟨P, 4, none⟩ = some (.slice x.qa x.qn x.qc) := by rw [cell_of_row _ _ _ _ _ _ s1]; rfl
  have fz := frozen_row s1 4
  have hXs := grownBy_trans s2 s4
  have HA4 := hid s3
  have HA24 := hid (row_grown HA22.out hXs (by omega))
  have HRO4 := hid (HRO2.out.other hXs HA2'.out (by decide) (by decide))
  have h24 := hXs.size
  have HB4 := hid (HB2.out.grown hXs (by rw [HP.out]; exact HB2.out.size) (fun k e => by cases e; exact Nat.le_refl _))
  clear s1 s2 s3 s4 hXs HA2' HA22 HB2 HRO2
  generalize V2.setCell ⟨P, 3, none⟩ (.slice sa x.sn sc) = V3 at *
  refine wpL_call rfl (fun K hK => ?_)
  go_wp2_with fail
  refine hK _ _ trivial ?_
  clear hK K x4 fz
  try simp only [Act.put, List.setIfInBounds_toArray, List.set_cons_succ, List.set_cons_zero]
  refine wpL_nil ?_
  refine hK3.out _ _ ?_
  generalize V3.setCell ⟨P, 4, none⟩ (.slice qa x.qn qc) = V4 at *
  have hUP := row_lt HA24.out
  have hBU4 : U.heap.size ≤ V4.heap.size := Nat.le_trans hU1 (Nat.le_trans h12 h24)
  obtain ⟨c0, c1, c2, c3, c4, c5, c6, c7, c8, c9, c10, c11⟩ := hAt_row (show V4.heap[P]? = some (.cells (hcells 3 (x.N : Int) (x.ah : Int) (.slice sa x.sn sc) (.slice qa x.qn qc) (x.tm : Int) (x.pt : Int) (x.tr : Int) 100 (x.si : Int) (x.pz : Int) (x.ha : Int)) 36) from HA4.out)
  have bX := below_alloc V4 (.cells (x.begun sa sc R1 qa qc R2).cells 63)
  have aX := heap_alloc_new V4 (.cells (x.begun sa sc R1 qa qc R2).cells 63)
  have HM5 : Hid (XM (V4.alloc (.cells (x.begun sa sc R1 qa qc R2).cells 63)) V4.heap.size U.heap.size (x.begun sa sc R1 qa qc R2)) := ⟨aX, HRO4.out.below bX, fun p hp => by cases hp⟩
  have HA25 := hid (row_below HA24.out bX)
  have HB5 := hid (HB4.out.trans (bX.mono (by rw [HP.out]; exact HB4.out.size)))
  have hUl : P + 1 < U.heap.size := hUP2
  clear bX aX HA4 HA24 HB4 HRO4
  unfold WS.begun WS.cells at HM5 HA25 HB5
  dsimp only at HM5 HA25 HB5
  refine wp_seq_k (fun K4 hK4 => ?_)
  go_wp2_with fail
  refine hK4.out _ _ ?_
  clear c0 c1 c2 c3 c4 c5 c6 c7 c8 c9 c10 c11
  obtain ⟨X, hX⟩ : ∃ X, X = V4.heap.size := ⟨_, rfl⟩
  rw [← hX] at HM5 hBU4 ⊢
  clear hX
  generalize V4.alloc (.cells #[.int .i64 3, .int .i64 (x.N : Int), .int .i64 (x.ah : Int), .slice sa x.sn sc, .slice qa x.qn qc, .int .i64 (x.tm : Int), .int .i64 (x.pt : Int), .int .i64 (x.tr : Int), .int .i64 100, .int .i64 (x.si : Int), .int .i64 (x.pz : Int), .int .i64 (x.ha : Int), .slice none 0 0] 63) = V5 at *
  have hcall := hid (HF.out X U.heap.size V5 sa sc R1 qa qc R2 (by rw [← HP.out]; omega) hBU4 (by have h := HB5.out; have e := HP.out; subst e; exact h) HM5.out Hk1.out Hk2.out)
  clear HF HM5
  rcases hfn with rfl | rfl
  all_goals
    refine wp_seq_k (fun K5 hK5 => ?_)
    go_wp2_with fail
    refine hcall.out.mono ?_
    rintro e V6 ⟨er, x2, rfl, hR, hM6, hb6⟩
    have HR := hid hR
    have HM6 := hid hM6
    have HA26 := hid ((hb6.block (P + 1) hUl).trans HA25.out)
    have HB6 := hid (HB5.out.trans (hb6.mono (by omega)))
    clear hR hM6 hb6 hcall HA25 HB5
    go_wp2_with fail
    refine hK5.out _ _ ?_
    refine wp_seq_k (fun K6 hK6 => ?_)
    refine wp_region_can_all [9] [0, 1, 2, 3, 4, 5, 6, 7, 8, 9, 10, 11] (fun u u' => u.grownBy u' (some (P + 1))) (fun u => World.grownBy.refl u _) (fun _ _ _ h k => grownBy_trans h k) (by kernel_rfl) (by kernel_rfl) ?_
    have HA27 : Hid (V6.drew.heap[P + 1]? = _) := HA26
    have HM7 := hid (HM6.out.below ((Below.refl _ V6).drew))
    have HB7 := hid (HB6.out.trans ((Below.refl P V6).drew))
    clear HA26 HM6 HB6
    generalize V6.drew = V6 at *
    have nx : ∀ w', V6.grownBy w' (some (P + 1)) → w'.heap[X]? = some (.cells x2.cells 63) := fun w' hw => row_grown HM7.out.bx hw (ne_tt HM7.out.bx HA27.out (by decide))
    have n0 : ∀ w', V6.grownBy w' (some (P + 1)) → w'.cell? ⟨X, 0, none⟩ = some (.int .i64 3) := fun w' hw => by rw [cell_of_row _ _ _ _ _ _ (nx w' hw)]; rfl
    have n1 : ∀ w', V6.grownBy w' (some (P + 1)) → w'.cell? ⟨X, 1, none⟩ = some (.int .i64 (x2.N : Int)) := fun w' hw => by rw [cell_of_row _ _ _ _ _ _ (nx w' hw)]; rfl
    have n2 : ∀ w', V6.grownBy w' (some (P + 1)) → w'.cell? ⟨X, 2, none⟩ = some (.int .i64 (x2.ah : Int)) := fun w' hw => by rw [cell_of_row _ _ _ _ _ _ (nx w' hw)]; rfl
    have n3 : ∀ w', V6.grownBy w' (some (P + 1)) → w'.cell? ⟨X, 3, none⟩ = some (.slice x2.sa x2.sn x2.sc) := fun w' hw => by rw [cell_of_row _ _ _ _ _ _ (nx w' hw)]; rfl
    have n4 : ∀ w', V6.grownBy w' (some (P + 1)) → w'.cell? ⟨X, 4, none⟩ = some (.slice x2.qa x2.qn x2.qc) := fun w' hw => by rw [cell_of_row _ _ _ _ _ _ (nx w' hw)]; rfl
    have n5 : ∀ w', V6.grownBy w' (some (P + 1)) → w'.cell? ⟨X, 5, none⟩ = some (.int .i64 (x2.tm : Int)) := fun w' hw => by rw [cell_of_row _ _ _ _ _ _ (nx w' hw)]; rfl
    have n6 : ∀ w', V6.grownBy w' (some (P + 1)) → w'.cell? ⟨X, 6, none⟩ = some (.int .i64 (x2.pt : Int)) := fun w' hw => by rw [cell_of_row _ _ _ _ _ _ (nx w' hw)]; rfl
    have n7 : ∀ w', V6.grownBy w' (some (P + 1)) → w'.cell? ⟨X, 7, none⟩ = some (.int .i64 (x2.tr : Int)) := fun w' hw => by rw [cell_of_row _ _ _ _ _ _ (nx w' hw)]; rfl
    have n8 : ∀ w', V6.grownBy w' (some (P + 1)) → w'.cell? ⟨X, 8, none⟩ = some (.int .i64 100) := fun w' hw => by rw [cell_of_row _ _ _ _ _ _ (nx w' hw)]; rfl
    have n9 : ∀ w', V6.grownBy w' (some (P + 1)) → w'.cell? ⟨X, 9, none⟩ = some (.int .i64 (x2.si : Int)) := fun w' hw => by rw [cell_of_row _ _ _ _ _ _ (nx w' hw)]; rfl
    have n10 : ∀ w', V6.grownBy w' (some (P + 1)) → w'.cell? ⟨X, 10, none⟩ = some (.int .i64 (x2.pz : Int)) := fun w' hw => by rw [cell_of_row _ _ _ _ _ _ (nx w' hw)]; rfl
    have n11 : ∀ w', V6.grownBy w' (some (P + 1)) → w'.cell? ⟨X, 11, none⟩ = some (.int .i64 (x2.ha : Int)) := fun w' hw => by rw [cell_of_row _ _ _ _ _ _ (nx w' hw)]; rfl
    have n12 : ∀ w', V6.grownBy w' (some (P + 1)) → w'.cell? ⟨X, 12, none⟩ = some (.slice x2.ga x2.gn x2.gc) := fun w' hw => by rw [cell_of_row _ _ _ _ _ _ (nx w' hw)]; rfl
    clear nx
    simp only [List.map_cons, List.map_nil, List.contains_cons, List.contains_nil, List.getD_cons_zero, List.getD_cons_succ, Nat.reduceBEq, Bool.or_false]
    iterate 9 (refine wpL_do rfl (fun w' hw' => (by go_simp; rfl)) ?_; simp only [Act.put, List.setIfInBounds_toArray, List.set_cons_succ, List.set_cons_zero])
    clear n0 n1 n2 n3 n4 n5 n6 n7 n8 n9 n10 n11 n12
    obtain ⟨z0, z1, z2, z3, z4, z5, z6, z7, z8, z9, z10, z11⟩ := hAt_row (show V6.heap[P + 1]? = some (.cells (hcells 0 0 0 (.slice none 0 0) (.slice none 0 0) 0 0 0 0 0 0 0) 36) from HA27.out)
    have fz := frozen_row HA27.out
    obtain ⟨f1, f2⟩ := twelve HA27.out (.int .i64 3) (.int .i64 (x2.N : Int)) (.int .i64 (x2.ah : Int)) (.slice x2.sa x2.sn x2.sc) (.slice x2.qa x2.qn x2.qc) (.int .i64 (x2.tm : Int)) (.int .i64 (x2.pt : Int)) (.int .i64 (x2.tr : Int)) (.int .i64 100) (.int .i64 (x2.si : Int)) (.int .i64 (x2.pz : Int)) (.int .i64 (x2.ha : Int))
    have HF1 := hid f1
    have HF2 := hid f2
    clear f1 f2
    refine wpL_call rfl (fun K hK => ?_)
    go_wp2_with fail
    refine hK _ _ HF2.out ?_
    clear hK K
    try simp only [Act.put, List.setIfInBounds_toArray, List.set_cons_succ, List.set_cons_zero]
    have HRO8 := hid (HM7.out.ro.other HF2.out HA27.out (by decide) (by decide))
    have HB8 := hid (HB7.out.grown HF2.out (by rw [HP.out]; exact HB7.out.size) (fun k e => by cases e; exact Nat.le_succ P))
    clear fz z0 z1 z2 z3 z4 z5 z6 z7 z8 z9 z10 z11 HF2 HM7 HA27 HB7
    generalize (((((((((((V6.setCell ⟨P + 1, 0, none⟩ (.int .i64 3)).setCell ⟨P + 1, 1, none⟩ (.int .i64 (x2.N : Int))).setCell ⟨P + 1, 2, none⟩ (.int .i64 (x2.ah : Int))).setCell ⟨P + 1, 3, none⟩ (.slice x2.sa x2.sn x2.sc)).setCell ⟨P + 1, 4, none⟩ (.slice x2.qa x2.qn x2.qc)).setCell ⟨P + 1, 5, none⟩ (.int .i64 (x2.tm : Int))).setCell ⟨P + 1, 6, none⟩ (.int .i64 (x2.pt : Int))).setCell ⟨P + 1, 7, none⟩ (.int .i64 (x2.tr : Int))).setCell ⟨P + 1, 8, none⟩ (.int .i64 100)).setCell ⟨P + 1, 9, none⟩ (.int .i64 (x2.si : Int))).setCell ⟨P + 1, 10, none⟩ (.int .i64 (x2.pz : Int))).setCell ⟨P + 1, 11, none⟩ (.int .i64 (x2.ha : Int)) = V8 at *
    iterate 2 (refine wpL_do rfl (fun w' hw' => (by go_simp; rfl)) ?_; simp only [Act.put, List.setIfInBounds_toArray, List.set_cons_succ, List.set_cons_zero])
    refine wpL_nil ?_
    refine hK6.out _ _ ?_
    go_wp2_with fail
    obtain ⟨y0, y1, y2, y3, y4, y5, y6, y7, y8, y9, y10, y11⟩ := hAt_row (show V8.heap[P + 1]? = some (.cells (hcells 3 (x2.N : Int) (x2.ah : Int) (.slice x2.sa x2.sn x2.sc) (.slice x2.qa x2.qn x2.qc) (x2.tm : Int) (x2.pt : Int) (x2.tr : Int) 100 (x2.si : Int) (x2.pz : Int) (x2.ha : Int)) 36) from HF1.out)
    refine bodyPost_ret (by simp only [results, Try.results18, go_sem]; simp [go_sem, y0, y1, y2, y3, y4, y5, y6, y7, y8, y9, y10, y11]; rfl) rfl ?_
    refine ⟨⟨er, x2, rfl, HR.out, ?_⟩, by rw [← HP.out]; exact HB8.out⟩
    have h9 := HRO8.out
    have hle : w.heap.size ≤ U.heap.size := by rw [← HP.out]; omega
    exact h9.mono hle
end Go.Proofs.Ytkngoomkmbkenaa
/- Step, whole. -/
namespace Go.Proofs.Ytkngoomkmbkenaa
set_option linter.unusedVariables false
open Go.RowKit

/-- a hand in memory: its rows may be read -/
structure HM (W : World) (x : WS) : Prop where
  s : PkT W x.sa x.sn x.sc x.Rs
  q : PkT W x.qa x.qn x.qc x.Rq
theorem HM.below {W W' : World} {x : WS} (h : HM W x) (hb : Below W.heap.size W W') : HM W' x := ⟨h.s.below hb, h.q.below hb⟩
theorem HM.ofRO {W : World} {B : Nat} {x : WS} (h : RO W B x) : HM W x := ⟨h.sp, h.qp⟩
theorem WL.hn {ah pt pz r : Nat} {h : HS} {x : WS} (H : WL ah pt pz h x) (k : HOk ah pt pz r h) (hah0 : 0 < ah) (hah : ah ≤ 100) (hpt0 : 0 < pt) (hpt : pt ≤ 1000) (hpz : pz ≤ 1000) : HN x.N x.ah x.tm x.pt x.tr x.si x.pz (x.ha : Int) x.sn x.qn := by
  obtain ⟨k1, k2, k3, k4, k5, k6, k7, k8, k9⟩ := k
  obtain ⟨e1, e2, e3, e4, e5, e6, e7, e8, e9, e10, e11, e12⟩ := H
  refine ⟨by omega, by omega, by omega, by omega, by omega, by omega, by omega, by omega, by omega, by omega, by omega, ?_⟩
  rw [e9]
  split
  · exact .inr rfl
  · exact .inl rfl
theorem ones_one {R : List RB} {b n : Nat} (h : conts R = ones (List.range' b n)) : ∀ r ∈ R, 1 ≤ r.2.length ∧ r.2.length ≤ 1017 := fun r hr => by rw [ones_len h r hr]; decide
structure StR (ah pt pz : Nat) (W0 W : World) (y : HS × List Nat) (e : Ending) : Prop where
  ex : ∃ x2, e = .returned (.tuple #[.agg x2.hand, .slice x2.ga x2.gn x2.gc, .int .i64 0]) ∧ RO W W0.heap.size x2 ∧ WL ah pt pz y.1 x2 ∧ conts x2.Rg = cmds y.2 ∧ x2.gn = y.2.length
  blw : Below W0.heap.size W0 W
set_option maxRecDepth 1000000 in
set_option maxHeartbeats 8000000 in
theorem step_ok (ah pt pz dr : Nat) (st er : Int) (hd dw da : Bool) (h : HS) (x : WS) (r : Nat) (w : World) (hM : HM w x) (H : WL ah pt pz h x) (hk : HOk ah pt pz r h) (hah0 : 0 < ah) (hah1 : ah ≤ 100) (hpt0 : 0 < pt) (hpt : pt ≤ 1000) (hpz : pz ≤ 1000)
    (hst : StO st dr dw da er) (her : hd = true → er = 0) (hdr : dr ≤ r) (hdb : hd = true → h.b ≤ dr) :
    Calls Try.prog 25 #[.agg x.hand, .int .i64 st, .bool hd] w fun e w' => StR ah pt pz w w' (stepH ah pt pz h hd dr dw da) e := by
  have A0 := heap_alloc_new w (.cells x.hand 36)
  have b0 := below_alloc w (.cells x.hand 36)
  generalize hV0 : w.alloc (.cells x.hand 36) = V0 at *
  have A1 := heap_alloc_new V0 (.cells #[.int .i64 st] 3)
  have b1 := below_alloc V0 (.cells #[.int .i64 st] 3)
  generalize hV1 : V0.alloc (.cells #[.int .i64 st] 3) = V1 at *
  have A2 := heap_alloc_new V1 (.cells #[.bool hd] 4)
  have b2 := below_alloc V1 (.cells #[.bool hd] 4)
  generalize hV2 : V1.alloc (.cells #[.bool hd] 4) = V2 at *
  have A3 := heap_alloc_new V2 (.cells #[.int .i64 0, .int .i64 0, .int .i64 0, .slice none 0 0, .slice none 0 0, .int .i64 0, .int .i64 0, .int .i64 0, .int .i64 0, .int .i64 0, .int .i64 0, .int .i64 0] 36)
  have b3 := below_alloc V2 (.cells #[.int .i64 0, .int .i64 0, .int .i64 0, .slice none 0 0, .slice none 0 0, .int .i64 0, .int .i64 0, .int .i64 0, .int .i64 0, .int .i64 0, .int .i64 0, .int .i64 0] 36)
  have z1 : V0.heap.size = w.heap.size + 1 := by rw [← hV0]; simp
  have z2 : V1.heap.size = w.heap.size + 2 := by rw [← hV1, World.size_alloc, z1]
  have z3 : V2.heap.size = w.heap.size + 3 := by rw [← hV2, World.size_alloc, z2]
  obtain ⟨P, hP⟩ : ∃ P, P = w.heap.size := ⟨_, rfl⟩
  rw [← hP] at z1 z2 z3 A0
  rw [z1] at A1
  rw [z2] at A2
  rw [z3] at A3
  have HA0 := hid (row_below (row_below (row_below A0 b1) b2) b3)
  have HA1 := hid (row_below (row_below A1 b2) b3)
  have HA2 := hid (row_below A2 b3)
  have HA3 := hid A3
  have hB1 := b0.trans (b1.mono b0.size)
  have hB2 := hB1.trans (b2.mono hB1.size)
  have HB := hid (hB2.trans (b3.mono hB2.size))
  have HM0 := hid hM
  have HH := hid H
  have HK := hid hk
  have Hst := hid hst
  have HP := hid hP
  have HZ := hid (And.intro z1 (And.intro z2 z3))
  have HV : Hid (V2 = ((w.alloc (.cells x.hand 36)).alloc (.cells #[.int .i64 st] 3)).alloc (.cells #[.bool hd] 4)) := by rw [← hV2, ← hV1, ← hV0]; exact rfl
  rw [HV.out] at HA0 HA1 HA2 HA3 HB
  clear hV0 hV1 hV2 HV A0 A1 A2 A3 b0 b1 b2 b3 hB1 hB2 hM H hk hst hP z1 z2 z3 HZ V0 V1 V2
  unfold WS.hand at *
  go_enter Try.func25, Try.ntmps25
  refine wp_seq_k (fun K0 hK0 => ?_)
  go_wp2_with fail
  rw [← HP.out]
  refine hK0.out _ _ ?_
  generalize (((w.alloc (.cells #[.int .i64 3, .int .i64 (x.N : Int), .int .i64 (x.ah : Int), .slice x.sa x.sn x.sc, .slice x.qa x.qn x.qc, .int .i64 (x.tm : Int), .int .i64 (x.pt : Int), .int .i64 (x.tr : Int), .int .i64 100, .int .i64 (x.si : Int), .int .i64 (x.pz : Int), .int .i64 (x.ha : Int)] 36)).alloc (.cells #[.int .i64 st] 3)).alloc (.cells #[.bool hd] 4)).alloc (.cells #[.int .i64 0, .int .i64 0, .int .i64 0, .slice none 0 0, .slice none 0 0, .int .i64 0, .int .i64 0, .int .i64 0, .int .i64 0, .int .i64 0, .int .i64 0, .int .i64 0] 36) = W at *
  obtain ⟨c0, c1, c2, c3, c4, c5, c6, c7, c8, c9, c10, c11⟩ := hAt_row (show W.heap[P]? = some (.cells (hcells 3 (x.N : Int) (x.ah : Int) (.slice x.sa x.sn x.sc) (.slice x.qa x.qn x.qc) (x.tm : Int) (x.pt : Int) (x.tr : Int) 100 (x.si : Int) (x.pz : Int) (x.ha : Int)) 36) from HA0.out)
  have hMW := HM0.out.below HB.out
  have hg := hid (gen_ok 34 (.inr rfl) #[.pointer (some ⟨P + 1, 0, none⟩), .pointer (some ⟨P + 2, 0, none⟩)] (fun er' x2 => er' = 0 ∧ WL ah pt pz (stepH ah pt pz h hd dr dw da).1 x2 ∧ conts x2.Rg = cmds (stepH ah pt pz h hd dr dw da).2 ∧ x2.gn = (stepH ah pt pz h hd dr dw da).2.length) x W
    (HH.out.hn HK.out hah0 hah1 hpt0 hpt hpz) hMW.s hMW.q (ones_one HH.out.S) (ones_one HH.out.Q) (fun X B w1 sa sc R1 qa qc R2 hB hBX hb1 hM1 hk1 hk2 => by
      have hW : WL ah pt pz h (x.begun sa sc R1 qa qc R2) := by
        obtain ⟨e1, e2, e3, e4, e5, e6, e7, e8, e9, e10, e11, e12⟩ := HH.out
        exact ⟨e1, e2, e3, hk1.trans e4, hk2.trans e5, e6, e7, e8, e9, e10, e11, e12⟩
      refine (stp1_ok ah pt pz X B (P + 1) (P + 2) dr st er hd dw da h (x.begun sa sc R1 qa qc R2) r w1 hBX hM1 hW HK.out hah1 hpt0 hpt hpz (Nat.zero_le _) (row_below HA1.out hb1) (row_below HA2.out hb1) Hst.out her hdr hdb).mono ?_
      rintro e w2 ⟨rfl, ⟨x', j1, j2, j3, j4⟩, j5⟩
      refine ⟨0, x', rfl, ⟨rfl, j2, ?_, ?_⟩, j1, j5⟩
      · rw [j3]; rfl
      · rw [j4]; exact Nat.zero_add _))
  clear hMW
  go_wp2_with fail
  refine hg.out.mono ?_
  rintro e V ⟨⟨er2, x2, rfl, ⟨rfl, hW2, hc2, hn2⟩, hro⟩, hb⟩
  have HW2 := hid hW2
  have Hc2 := hid hc2
  have Hn2 := hid hn2
  have HRO := hid hro
  have HA4 := hid (row_below HA3.out hb)
  have HB4 := hid (HB.out.trans (hb.mono HB.out.size))
  have hszW := HB.out.size
  clear hW2 hc2 hn2 hro hb hg c0 c1 c2 c3 c4 c5 c6 c7 c8 c9 c10 c11 HA0 HA1 HA2 HA3 HB
  unfold WS.hand
  obtain ⟨z0, z1, z2, z3, z4, z5, z6, z7, z8, z9, z10, z11⟩ := hAt_row (show V.heap[P + 3]? = some (.cells (hcells 0 0 0 (.slice none 0 0) (.slice none 0 0) 0 0 0 0 0 0 0) 36) from HA4.out)
  have fz := frozen_row HA4.out
  obtain ⟨f1, f2⟩ := twelve HA4.out (.int .i64 3) (.int .i64 (x2.N : Int)) (.int .i64 (x2.ah : Int)) (.slice x2.sa x2.sn x2.sc) (.slice x2.qa x2.qn x2.qc) (.int .i64 (x2.tm : Int)) (.int .i64 (x2.pt : Int)) (.int .i64 (x2.tr : Int)) (.int .i64 100) (.int .i64 (x2.si : Int)) (.int .i64 (x2.pz : Int)) (.int .i64 (x2.ha : Int))
  have HF1 := hid f1
  have HF2 := hid f2
  clear f1 f2
  go_wp2_with fail
  have HRO8 := hid (HRO.out.other HF2.out HA4.out (by decide) (by decide))
  have HB8 := hid (HB4.out.grown HF2.out HB4.out.size (fun k e => by cases e; rw [← HP.out]; omega))
  clear fz z0 z1 z2 z3 z4 z5 z6 z7 z8 z9 z10 z11 HF2 HRO HA4 HB4
  generalize (((((((((((V.setCell ⟨P + 3, 0, none⟩ (.int .i64 3)).setCell ⟨P + 3, 1, none⟩ (.int .i64 (x2.N : Int))).setCell ⟨P + 3, 2, none⟩ (.int .i64 (x2.ah : Int))).setCell ⟨P + 3, 3, none⟩ (.slice x2.sa x2.sn x2.sc)).setCell ⟨P + 3, 4, none⟩ (.slice x2.qa x2.qn x2.qc)).setCell ⟨P + 3, 5, none⟩ (.int .i64 (x2.tm : Int))).setCell ⟨P + 3, 6, none⟩ (.int .i64 (x2.pt : Int))).setCell ⟨P + 3, 7, none⟩ (.int .i64 (x2.tr : Int))).setCell ⟨P + 3, 8, none⟩ (.int .i64 100)).setCell ⟨P + 3, 9, none⟩ (.int .i64 (x2.si : Int))).setCell ⟨P + 3, 10, none⟩ (.int .i64 (x2.pz : Int))).setCell ⟨P + 3, 11, none⟩ (.int .i64 (x2.ha : Int)) = V8 at *
  obtain ⟨y0, y1, y2, y3, y4, y5, y6, y7, y8, y9, y10, y11⟩ := hAt_row (show V8.heap[P + 3]? = some (.cells (hcells 3 (x2.N : Int) (x2.ah : Int) (.slice x2.sa x2.sn x2.sc) (.slice x2.qa x2.qn x2.qc) (x2.tm : Int) (x2.pt : Int) (x2.tr : Int) 100 (x2.si : Int) (x2.pz : Int) (x2.ha : Int)) 36) from HF1.out)
  refine bodyPost_ret (by simp only [results, Try.results25, go_sem]; simp [go_sem, y0, y1, y2, y3, y4, y5, y6, y7, y8, y9, y10, y11]; rfl) rfl ?_
  have h9 := HRO8.out
  exact ⟨⟨x2, rfl, h9.mono hszW, HW2.out, Hc2.out, Hn2.out⟩, HB8.out⟩
end Go.Proofs.Ytkngoomkmbkenaa
