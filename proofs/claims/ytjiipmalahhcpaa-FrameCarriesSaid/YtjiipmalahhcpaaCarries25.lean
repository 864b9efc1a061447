/- frame: Hear: what is told. -/
import Derived.Test.YtjiipmalahhcpaaCarries24
namespace Go.Proofs.Ytjiipmalahhcpaa
set_option linter.unusedVariables false
open Go.RowKit

theorem Try.info59 : (Try.prog.info? 59).map (fun i => (i.zero, i.size, i.bytes)) = some (some (.agg #[.int .i64 0, .bool false, .bool false, .int .i64 0, .int .i64 0, .int .i64 0, .slice none 0 0]), 7, 64) := by kernel_rfl
theorem Try.underlying55 : Try.prog.underlying 55 = some (.slice 59) := by kernel_rfl
/-- the cells of what is told -/
def hcl (ch : Nat) (r : PB) : List Value := [.int .i64 (ch : Int), .bool r.2.up, .bool r.2.se, .int .i64 (r.2.ap : Int), .int .i64 (r.2.pt : Int), .int .i64 (r.2.ct : Int), .slice r.1.1 r.1.2.1 r.1.2.2]
theorem hcl_len (ch : Nat) (r : PB) : (hcl ch r).length = 7 := rfl
theorem hcl_one (ch : Nat) (r : PB) : ∀ u ∈ hcl ch r, u.oneCell' = true := by
  intro u hu
  simp only [hcl, List.mem_cons, List.not_mem_nil, or_false] at hu
  rcases hu with rfl | rfl | rfl | rfl | rfl | rfl | rfl <;> rfl
/-- what is told, in memory -/
structure HLs (W : World) (B ch : Nat) (M : List PB) (ha : Option Addr) (hc : Nat) : Prop where
  ow : W.ownsRow B 59 7 (.slice ha M.length hc) M.length (M.flatMap (hcl ch))
  rd : ∀ r ∈ M, RdT 5 W r.1.1 r.1.2.1 r.1.2.2 (vb r.2.ds)
  ln : ∀ r ∈ M, r.1.2.1 = r.2.ds.length
theorem HLs.below {W W' : World} {B ch : Nat} {M : List PB} {ha : Option Addr} {hc : Nat} (h : HLs W B ch M ha hc) (hb : Below W.heap.size W W') : HLs W' B ch M ha hc :=
  ⟨ownsRow_below h.ow hb, fun r hr => (h.rd r hr).below hb, h.ln⟩
theorem HLs.other {W W' : World} {B ch k T : Nat} {M : List PB} {ha : Option Addr} {hc : Nat} {cs : Array Value} (h : HLs W B ch M ha hc) (hg : W.grownBy W' (some k)) (hk : W.heap[k]? = some (.cells cs T)) (h1 : 59 ≠ T) (h2 : 5 ≠ T) : HLs W' B ch M ha hc :=
  ⟨h.ow.kept hg (own_ne h.ow hk h1), fun r hr => (h.rd r hr).other hg hk h2, h.ln⟩
def real (r : PB) : Bool := !(r.2.ap == 2047)
def toldM (L : List PB) : List PB := L.filter real
theorem toldM_snoc (L : List PB) (k : Nat) (h : k < L.length) : toldM (L.take (k + 1)) = toldM (L.take k) ++ (if real L[k] then [L[k]] else []) := by
  unfold toldM
  rw [List.take_succ_eq_append_getElem h, List.filter_append]
  by_cases h2 : real L[k] = true
  · rw [if_pos h2, List.filter_cons, if_pos h2, List.filter_nil]
  · rw [if_neg h2, List.filter_cons, if_neg h2, List.filter_nil]
theorem own_ne59 {w : World} {B n : Nat} {v : Value} {xs : List Value} (h : w.ownsRow B 59 7 v n xs) {T : TypeId} (hT : 59 ≠ T) : ∀ b cs, w.heap[b]? = some (.cells cs T) → v.ownBlock ≠ some b := fun b cs hb e => by
  rcases own_ne h hb hT with h1 | h1
  · rw [h1] at e; cases e
  · exact h1 e
structure LpE (w W : World) (y : Nat → Value) (B P H eb ec cr sz : Nat) (ms : Int) (hcr ch ma ow fi : Nat) (e : Nat → ES) (da : Option Addr) (dn dc : Nat) (ds : List Nat) (st lost : Nat) (M : List PB) : Prop where
  sh : SH y P H st lost da dn dc
  ex : ∃ ha hc, y 19 = .slice ha M.length hc ∧ HLs W B ch M ha hc
  hm : HM W P H eb ec cr sz ms hcr ch ma ow fi e da dn dc ds
  blw : Below P w W
def HrI (w : World) (B P H eb ec cr sz : Nat) (ms : Int) (hcr ch ma ow fi : Nat) (e : Nat → ES) (da : Option Addr) (dn dc : Nat) (ds : List Nat) (st lost : Nat) (L : List PB) (la : Option Addr) (lc : Nat) (y : Nat → Value) (W : World) : Prop :=
  ∃ k : Nat, k ≤ L.length ∧ y 127 = .slice la L.length lc ∧ y 128 = .int .i64 (L.length : Int) ∧ y 129 = .int .i64 (k : Int) ∧ PL W B L la lc ∧ LpE w W y B P H eb ec cr sz ms hcr ch ma ow fi e da dn dc ds st lost (toldM (L.take k))
set_option maxRecDepth 1000000 in
set_option maxHeartbeats 8000000 in
theorem her_l (B P H eb ec cr sz : Nat) (ms : Int) (hcr ch ma ow fi : Nat) (e : Nat → ES) (da : Option Addr) (dn dc : Nat) (ds : List Nat) (st lost : Nat) (L : List PB) (la : Option Addr) (lc : Nat) (hB : B ≤ P) (hPB : P ≤ B) (hL : L.length ≤ 100000) :
    Tri Try.prog 148 (pieceOf Try.f12 [1, 1, 1, 1, 1, 1, 1, 1, 1, 1, 1, 1, 1, 1, 1, 1, 1, 0]) (fun y w => SH y P H st lost da dn dc ∧ y 16 = .slice la L.length lc ∧ y 19 = .slice none 0 0 ∧ HM w P H eb ec cr sz ms hcr ch ma ow fi e da dn dc ds ∧ PL w B L la lc)
      (fun y w y' w' => LpE w w' y' B P H eb ec cr sz ms hcr ch ma ow fi e da dn dc ds st lost (toldM L)) := by
  rintro Q y w ⟨⟨t2, t4, t10, t11, t12, t14⟩, t16, t19, hM, hP1⟩ hQ
  have HQ := hid hQ
  have HMm := hid hM
  have HPl := hid hP1
  clear hQ hM hP1
  conv => arg 2; whnf
  refine wp_seq_k (fun K0 hK0 => ?_)
  rw [fr148]
  simp only [t2, t4, t10, t11, t12, t14, t16, t19]
  clear t2 t4 t10 t11 t12 t14 t16 t19
  go_wp2_with fail
  refine hK0.out _ _ ?_
  refine wp_block ?_
  refine wp_loop_fr 148 (HrI w B P H eb ec cr sz ms hcr ch ma ow fi e da dn dc ds st lost L la lc) (fun y' _ => L.length - (intOf (y' 129)).toNat) ⟨rfl, rfl, 0, Nat.zero_le _, rfl, rfl, rfl, HPl.out, ⟨rfl, rfl, rfl, rfl, rfl, rfl⟩, ⟨none, 0, rfl, World.ownsRow_nil _ _ _ _, fun r h => (by cases h), fun r h => (by cases h)⟩, HMm.out, Below.refl _ _⟩ ?_
  clear HPl HMm
  rintro z W ⟨k, hk, s127, s128, s129, hpl, ⟨s2, s4, s10, s11, s12, s14⟩, ⟨ha, hc, s19, hh⟩, hM, hb⟩
  have HPl := hid hpl
  have HH := hid hh
  have HMm := hid hM
  have HB := hid hb
  clear hpl hh hM hb
  rw [fr148]
  simp only [s2, s4, s10, s11, s12, s14, s19, s127, s128, s129]
  clear s2 s4 s10 s11 s12 s14 s19 s127 s128 s129
  by_cases hlt : k < L.length
  · have d1 : decide ((k : Int) < (L.length : Int)) = true := decide_eq_true (by omega)
    have HS := hid (toldM_snoc L k hlt)
    have Htl := hid (show (toldM (L.take k)).length ≤ k from Nat.le_trans (List.length_filter_le _ _) (by rw [List.length_take]; omega))
    obtain ⟨g, rfl⟩ := own_addr HPl.out.ow (by omega)
    have hrr := HPl.out.rd L[k] (List.getElem_mem _)
    have hrl := HPl.out.ln L[k] (List.getElem_mem _)
    have hcel : ∀ j, j < 6 → W.cell? ⟨g, k * 6 + j, none⟩ = (pcl L[k])[j]? := fun j hj => own_flat pcl pcl_len HPl.out.ow rfl k hlt j hj
    obtain ⟨r, hr⟩ : ∃ r, r = L[k] := ⟨_, rfl⟩
    rw [← hr] at hrr hrl hcel HS
    have Hrr := hid hrr
    have Hrl := hid hrl
    have x0 : W.cell? ⟨g, k * 6, none⟩ = some (.bool r.2.up) := hcel 0 (by omega)
    have x1 : W.cell? ⟨g, k * 6 + 1, none⟩ = some (.bool r.2.se) := hcel 1 (by omega)
    have x2 : W.cell? ⟨g, k * 6 + 2, none⟩ = some (.int .i64 (r.2.ap : Int)) := hcel 2 (by omega)
    have x3 : W.cell? ⟨g, k * 6 + 3, none⟩ = some (.int .i64 (r.2.pt : Int)) := hcel 3 (by omega)
    have x4 : W.cell? ⟨g, k * 6 + 4, none⟩ = some (.int .i64 (r.2.ct : Int)) := hcel 4 (by omega)
    have x5 : W.cell? ⟨g, k * 6 + 5, none⟩ = some (.slice r.1.1 r.1.2.1 r.1.2.2) := hcel 5 (by omega)
    obtain ⟨n, hn⟩ : ∃ n, n = L.length := ⟨_, rfl⟩
    rw [← hn] at hlt hL d1 ⊢
    have Hn := hid hn
    clear hrr hrl hcel hr hk hn
    obtain ⟨M, hMe⟩ : ∃ M, M = toldM (L.take k) := ⟨_, rfl⟩
    rw [← hMe] at HS HH Htl ⊢
    have hMl : M.length ≤ k := Htl.out
    have HMe := hid hMe
    clear hMe
    have hkl : (k : Int) < (n : Int) := by omega
    go_upto_block 2 with (fail)
    refine wp_block ?_
    refine wp_seq_k (fun K1 hK1 => ?_)
    go_wp2_with fail
    refine hK1.out _ _ ?_
    clear x0 x1 x2 x3 x4 x5
    have b2 := below_alloc W (.cells #[.bool r.2.up, .bool r.2.se, .int .i64 (r.2.ap : Int), .int .i64 (r.2.pt : Int), .int .i64 (r.2.ct : Int), .slice r.1.1 r.1.2.1 r.1.2.2] 38)
    have r2 := heap_alloc_new W (.cells #[.bool r.2.up, .bool r.2.se, .int .i64 (r.2.ap : Int), .int .i64 (r.2.pt : Int), .int .i64 (r.2.ct : Int), .slice r.1.1 r.1.2.1 r.1.2.2] 38)
    have HP2 := hid (HPl.out.below b2)
    have HH2 := hid (HH.out.below b2)
    have HM2 := hid (HMm.out.below b2)
    have hrr2 := hid (Hrr.out.below b2)
    have HB2 := hid (HB.out.trans (b2.mono (Nat.le_of_lt (row_lt HMm.out.bx))))
    have R2 := hid r2
    obtain ⟨X, hX⟩ : ∃ X, X = W.heap.size := ⟨_, rfl⟩
    rw [← hX] at R2 ⊢
    clear b2 r2 hX HPl HH HMm Hrr HB
    generalize W.alloc (.cells #[.bool r.2.up, .bool r.2.se, .int .i64 (r.2.ap : Int), .int .i64 (r.2.pt : Int), .int .i64 (r.2.ct : Int), .slice r.1.1 r.1.2.1 r.1.2.2] 38) = V at *
    have x0 : V.cell? ⟨X, 0, none⟩ = some (.bool r.2.up) := by rw [cell_of_row _ _ _ _ _ _ R2.out]; rfl
    have x1 : V.cell? ⟨X, 1, none⟩ = some (.bool r.2.se) := by rw [cell_of_row _ _ _ _ _ _ R2.out]; rfl
    have x2 : V.cell? ⟨X, 2, none⟩ = some (.int .i64 (r.2.ap : Int)) := by rw [cell_of_row _ _ _ _ _ _ R2.out]; rfl
    have x3 : V.cell? ⟨X, 3, none⟩ = some (.int .i64 (r.2.pt : Int)) := by rw [cell_of_row _ _ _ _ _ _ R2.out]; rfl
    have x4 : V.cell? ⟨X, 4, none⟩ = some (.int .i64 (r.2.ct : Int)) := by rw [cell_of_row _ _ _ _ _ _ R2.out]; rfl
    have x5 : V.cell? ⟨X, 5, none⟩ = some (.slice r.1.1 r.1.2.1 r.1.2.2) := by rw [cell_of_row _ _ _ _ _ _ R2.out]; rfl
    have h1 : V.cell? ⟨H, 1, none⟩ = some (.int .i64 (ch : Int)) := by rw [cell_of_row _ _ _ _ _ _ HM2.out.hd]; rfl
    by_cases hap : r.2.ap = 2047
    · have e1 : ((r.2.ap : Int) == 2047) = true := by rw [hap]; rfl
      have e2 : ((r.2.ap : Int) != 2047) = false := by rw [bne, e1]; rfl
      have e3 : decide ((r.2.ap : Int) = 2047) = true := decide_eq_true (by omega)
      have e4 : (r.2.ap == 2047) = true := by rw [hap]; rfl
      have HS2 : Hid (toldM (L.take (k + 1)) = M) := by
        unfold Hid
        rw [HS.out]
        unfold real
        rw [e4]
        exact List.append_nil _
      clear hap
      go_wp2_with fail
      refine ⟨rfl, rfl, ⟨k + 1, by rw [← Hn.out]; omega, ?_, ?_, ?_, HP2.out, ⟨rfl, rfl, rfl, rfl, rfl, rfl⟩, ⟨ha, hc, ?_, ?_⟩, HM2.out, HB2.out⟩, ?_⟩
      · rw [← Hn.out]; rfl
      · rw [← Hn.out]; rfl
      · show Value.int .i64 _ = Value.int .i64 _
        go_num
      · rw [HS2.out]; rfl
      · rw [HS2.out]; exact HH2.out
      · show n - (intOf (Value.int .i64 _)).toNat < _
        simp [intOf]
        omega
    · have e1 : ((r.2.ap : Int) == 2047) = false := by rw [beq_eq_false_iff_ne]; omega
      have e2 : ((r.2.ap : Int) != 2047) = true := by rw [bne, e1]; rfl
      have e3 : decide ((r.2.ap : Int) = 2047) = false := decide_eq_false (by omega)
      have e4 : (r.2.ap == 2047) = false := by rw [beq_eq_false_iff_ne]; omega
      have HS2 : Hid (toldM (L.take (k + 1)) = M ++ [r]) := by
        unfold Hid
        rw [HS.out]
        unfold real
        rw [e4]
        rfl
      clear hap
      have b6 := below_alloc V (.cells #[.int .i64 (ch : Int), .bool r.2.up, .bool r.2.se, .int .i64 (r.2.ap : Int), .int .i64 (r.2.pt : Int), .int .i64 (r.2.ct : Int), .slice r.1.1 r.1.2.1 r.1.2.2] 59)
      have hn6 := new_cells V (hcl ch r) 59
      have HP6 := hid (HP2.out.below b6)
      have HH6 := hid (HH2.out.below b6)
      have HM6 := hid (HM2.out.below b6)
      have hrr6 := hid (hrr2.out.below b6)
      have HB6 := hid (HB2.out.trans (b6.mono (Nat.le_of_lt (row_lt HM2.out.bx))))
      have Hn6 : Hid (∀ (j : Nat) (x : Value), (hcl ch r)[j]? = some x → (V.alloc (.cells #[.int .i64 (ch : Int), .bool r.2.up, .bool r.2.se, .int .i64 (r.2.ap : Int), .int .i64 (r.2.pt : Int), .int .i64 (r.2.ct : Int), .slice r.1.1 r.1.2.1 r.1.2.2] 59)).cell? ((⟨V.heap.size, 0, none⟩ : Addr).add j) = some x) := hn6
      have hlt6 : Hid (B ≤ (V.alloc (.cells #[.int .i64 (ch : Int), .bool r.2.up, .bool r.2.se, .int .i64 (r.2.ap : Int), .int .i64 (r.2.pt : Int), .int .i64 (r.2.ct : Int), .slice r.1.1 r.1.2.1 r.1.2.2] 59)).heap.size) := by
        unfold Hid
        have := row_lt HM6.out.bx
        omega
      clear b6 hn6 HP2 HH2 HM2 hrr2 HB2
      obtain ⟨i59, hi59, hz59, hs59, hb59⟩ := info_parts Try.info59
      go_wp2_with (at_builtin; refine hold ?_)
      unfold Hid
      refine wpList_append_wide_at rfl _ _ 55 rfl B 59 i59 _ 7 64 Try.underlying55 hi59 hz59 hs59 hb59 rfl (by decide) (.slice ha M.length hc) M.length (M.flatMap (hcl ch)) rfl HH6.out.ow ⟨V.heap.size, 0, none⟩ 1 1 (hcl ch r) rfl rfl Hn6.out (hcl_one ch r) (by unfold maxLen; omega) (by omega) hlt6.out ?_
      intro v' U o6 g6 _
      obtain ⟨va, vc, rfl, _, _, _⟩ := own_form o6
      have hne : ∀ {T : TypeId}, 59 ≠ T → ∀ b cs, (V.alloc (.cells #[.int .i64 (ch : Int), .bool r.2.up, .bool r.2.se, .int .i64 (r.2.ap : Int), .int .i64 (r.2.pt : Int), .int .i64 (r.2.ct : Int), .slice r.1.1 r.1.2.1 r.1.2.2] 59)).heap[b]? = some (.cells cs T) → (Value.slice ha M.length hc).ownBlock ≠ some b := fun hT => own_ne59 HH6.out.ow hT
      have HP7 : Hid (PL U B L (some ⟨g, 0, none⟩) lc) := by
        refine ⟨HP6.out.ow.kept g6 ?_, fun r hr => (HP6.out.rd r hr).kept g6 (hne (by decide)), HP6.out.ln⟩
        rcases HP6.out.ow.2 with ⟨h0, _⟩ | ⟨g1, c1, cu, h0, _, h3, _⟩
        · cases h0
        · cases h0
          exact .inr (fun e => hne (by decide) _ _ h3 e.symm)
      have HH7 : Hid (HLs U B ch (M ++ [r]) va vc) := by
        refine ⟨?_, fun x hx => ?_, fun x hx => ?_⟩
        · rw [List.length_append, List.flatMap_append]
          simpa using o6
        · rcases List.mem_append.1 hx with h | h
          · exact (HH6.out.rd x h).kept g6 (hne (by decide))
          · rw [List.mem_singleton] at h
            subst h
            exact hrr6.out.kept g6 (hne (by decide))
        · rcases List.mem_append.1 hx with h | h
          · exact HH6.out.ln x h
          · rw [List.mem_singleton] at h
            subst h
            exact Hrl.out
      have HM7 : Hid (HM U P H eb ec cr sz ms hcr ch ma ow fi e da dn dc ds) := by
        obtain ⟨m1, m2, m3, m4, m5, m6⟩ := HM6.out
        obtain ⟨cq, hq, _⟩ := m4.ex
        exact ⟨(g6.block _ (row_lt m1) (fun e => hne (by decide) _ _ m1 e.symm)).trans m1, (g6.block _ (row_lt m2) (fun e => hne (by decide) _ _ m2 e.symm)).trans m2, (g6.block _ (row_lt m3) (fun e => hne (by decide) _ _ m3 e.symm)).trans m3, m4.kept g6 (hne (by decide) _ _ hq), fun c hc => (m5 c hc).kept g6 (hne (by decide)), m6.kept g6 (hne (by decide))⟩
      have HB7 := hid (HB6.out.grown g6 (Nat.le_trans hPB hlt6.out) (fun k hk => Nat.le_trans hPB (HH6.out.ow.lt k hk).1))
      clear o6 g6 hne HP6 HH6 HM6 hrr6 HB6 Hn6 hlt6 x0 x1 x2 x3 x4 x5 h1
      go_wp2_with fail
      refine ⟨rfl, rfl, ⟨k + 1, by rw [← Hn.out]; omega, ?_, ?_, ?_, HP7.out, ⟨rfl, rfl, rfl, rfl, rfl, rfl⟩, ⟨va, vc, ?_, ?_⟩, HM7.out, HB7.out⟩, ?_⟩
      · rw [← Hn.out]; rfl
      · rw [← Hn.out]; rfl
      · show Value.int .i64 _ = Value.int .i64 _
        go_num
      · rw [HS2.out, List.length_append]; rfl
      · rw [HS2.out]; exact HH7.out
      · show n - (intOf (Value.int .i64 _)).toNat < _
        simp [intOf]
        omega
  · obtain rfl : k = L.length := by omega
    have d1 : decide (((L.length : Nat) : Int) < (L.length : Int)) = false := decide_eq_false (by omega)
    have HH2 : Hid (HLs W B ch (toldM L) ha hc) := by
      have := HH.out
      rw [List.take_length] at this
      exact this
    rw [List.take_length]
    have Hz := hid HB.out
    clear HH
    go_wp2_with fail
    exact q_fr (N := 148) HQ.out rfl ⟨⟨rfl, rfl, rfl, rfl, rfl, rfl⟩, ⟨ha, hc, rfl, HH2.out⟩, HMm.out, HB.out⟩
end Go.Proofs.Ytjiipmalahhcpaa
/- frame: Hear: how many were lost; the whole. -/
namespace Go.Proofs.Ytjiipmalahhcpaa
set_option linter.unusedVariables false
open Go.RowKit

def lostOf (ms : Int) (ma : Nat) : Nat := if ms < 0 then 0 else (ma + 256 - ms.toNat) % 256
theorem and255i : ∀ n : Nat, n < 512 → bits .and .i64 ((n : Int) - 256) 255 = ((n % 256 : Nat) : Int) := by decide +kernel
theorem and_lost (ms : Int) (ma : Nat) (h0 : 0 ≤ ms) (h1 : ms ≤ 255) (h2 : ma ≤ 255) : bits .and .i64 ((ma : Int) - ms) 255 = (lostOf ms ma : Int) := by
  unfold lostOf
  rw [if_neg (by omega)]
  have := and255i (ma + 256 - ms.toNat) (by omega)
  rw [show ((ma + 256 - ms.toNat : Nat) : Int) - 256 = (ma : Int) - ms by omega] at this
  exact this
set_option maxRecDepth 1000000 in
set_option maxHeartbeats 2000000 in
theorem her_13 (P H eb ec cr sz : Nat) (ms : Int) (hcr ch ma ow fi : Nat) (e : Nat → ES) (da : Option Addr) (dn dc : Nat) (ds : List Nat) (st : Nat) (h0 : -1 ≤ ms) (h1 : ms ≤ 255) (h2 : ma ≤ 255) :
    Tri Try.prog 148 (pieceOf Try.f12 [1, 1, 1, 1, 1, 1, 1, 0]) (fun y w => SH y P H st 0 da dn dc ∧ HM w P H eb ec cr sz ms hcr ch ma ow fi e da dn dc ds)
      (fun y w y' w' => SH y' P H st (lostOf ms ma) da dn dc ∧ w' = w) := by
  rintro Q y w ⟨⟨s2, s4, s10, s11, s12, s14⟩, hM⟩ hQ
  have HQ := hid hQ
  have p2 : w.cell? ⟨P, 2, none⟩ = some (.int .i64 ms) := by rw [cell_of_row _ _ _ _ _ _ hM.bx]; rfl
  have q2 : w.cell? ⟨H, 2, none⟩ = some (.int .i64 (ma : Int)) := by rw [cell_of_row _ _ _ _ _ _ hM.hd]; rfl
  clear hQ hM
  conv => arg 2; whnf
  rw [fr148]
  simp only [s2, s4, s10, s11, s12, s14]
  clear s2 s4 s10 s11 s12
  by_cases h : 0 ≤ ms
  · have d1 : decide (0 ≤ ms) = true := decide_eq_true h
    have d2 : decide (ms ≥ 0) = true := decide_eq_true h
    have f1 := and_lost ms ma h h1 h2
    have f2 : IntKind.i64.wrap ((ma : Int) - ms) = (ma : Int) - ms := IntWalk.i64_in _ (by omega)
    generalize lostOf ms ma = lo at *
    clear s14
    go_wp2_with fail
    exact q_fr (N := 148) HQ.out rfl ⟨⟨rfl, rfl, rfl, rfl, rfl, rfl⟩, rfl⟩
  · have d1 : decide (0 ≤ ms) = false := decide_eq_false h
    have d2 : decide (ms ≥ 0) = false := decide_eq_false h
    have f1 : lostOf ms ma = 0 := if_pos (by omega)
    rw [f1] at HQ
    clear s14 f1
    go_wp2_with fail
    exact q_fr (N := 148) HQ.out rfl ⟨⟨rfl, rfl, rfl, rfl, rfl, rfl⟩, rfl⟩
def dropL (l : Nat → LE) (ch ow : Nat) : List Nat := if 0 ≤ (l ch).nx ∧ (l ch).nx ≠ (ow : Int) then [] else (l ch).rs
def hearL (l : Nat → LE) (ch ow : Nat) (rest : List Nat) : Nat → LE := fun c => if c = ch then ⟨((ow + 1) % 256 : Nat), rest⟩ else l c
theorem drop_rs (e : Nat → ES) (l : Nat → LE) (ch ow : Nat) (h : (e ch).abs = l ch) : (dropE e ch ow ch).rs = dropL l ch ow := by
  have h1 : (e ch).nx = (l ch).nx := by rw [← h]; rfl
  have h2 : (e ch).rs = (l ch).rs := by rw [← h]; rfl
  unfold dropE dropL
  rw [← h1]
  by_cases hc : 0 ≤ (e ch).nx ∧ (e ch).nx ≠ (ow : Int)
  · rw [if_pos hc, if_pos hc, setE_self]
  · rw [if_neg hc, if_neg hc, h2]
theorem drop_len (l : Nat → LE) (ch ow : Nat) (h : (l ch).Ok) : (dropL l ch ow).length ≤ 65541 := by
  unfold dropL
  split
  · exact Nat.zero_le _
  · exact h.len
theorem drop_ne (e : Nat → ES) {ch c : Nat} (ow : Nat) (h : c ≠ ch) : dropE e ch ow c = e c := by
  unfold dropE
  split
  · exact setE_ne _ _ h
  · rfl
/-- what Hear answers -/
structure HearR (W0 W : World) (cr sz ch ma st lost : Nat) (l' : Nat → LE) (ps : List PK) (e : Ending) : Prop where
  ex : ∃ eb ec M ha hc, e = .returned (.tuple #[lv cr sz (((ma + 1) % 256 : Nat) : Int) eb ec, .slice ha M.length hc, .int .i64 (lost : Int), .int .i64 (st : Int), .int .i64 0]) ∧ HearL W eb ec l' ∧ HLs W W0.heap.size ch M ha hc ∧ M.map (·.2) = ps.filter (fun p => !(p.ap == 2047))
  blw : Below W0.heap.size W0 W
/-- what a frame's bytes do -/
inductive HearC (l : Nat → LE) (ch ow fi : Nat) (ds : List Nat) (ps : List PK) (rest : List Nat) : Prop where
  | fill (h : ch = 7) (hp : ps = [])
  | chan (h : ch < 7) (out : List Nat) (hc : RowC (dropL l ch ow) ds fi out) (ho : out = encs ps ++ rest) (hp : ∀ p ∈ ps, p.Ok) (hr : Part rest)
theorem HearC.lt {l : Nat → LE} {ch ow fi : Nat} {ds : List Nat} {ps : List PK} {rest : List Nat} (h : HearC l ch ow fi ds ps rest) : ch ≤ 7 := by
  cases h with
  | fill h => omega
  | chan h => omega
theorem results_c4 {P : Program} {fn : Func} {p u v x z : Tmp} {ty : TypeId} (h : fn.results = #[.cell p ty, .tmp u, .tmp v, .tmp x, .tmp z]) (tmps : Array Value) (w : World) (g : Nat) (t : TypeId) (cs : Array Value) (fr : Nat × Nat) (d : TypeDesc)
    (hp : tmps.getD p undef = .pointer (some ⟨g, 0, none⟩)) (hg : w.heap[g]? = some (.cells cs t fr))
    (hu : P.underlying ty = some d) (hd : (match d with | .struct _ | .array _ _ => true | _ => false) = true) (hi : (P.info? ty).map (·.size) = some cs.size) :
    (results fn tmps).run P w = .ok (.tuple #[.agg cs, tmps.getD u undef, tmps.getD v undef, tmps.getD x undef, tmps.getD z undef]) w := by
  have hp' : tmps[p]?.getD undef = .pointer (some ⟨g, 0, none⟩) := by simpa using hp
  simp [results, h, hp', asAddr, run_loadVar_row w g t ty cs fr d hg hu hd hi]
theorem told_map (L : List PB) : (toldM L).map (·.2) = (L.map (·.2)).filter (fun p => !(p.ap == 2047)) := by
  unfold toldM
  rw [List.filter_map]
  rfl
set_option maxRecDepth 1000000 in
set_option maxHeartbeats 8000000 in
theorem hear_ok (cr sz : Nat) (ms : Int) (eb ec : Nat) (l : Nat → LE) (ch ma ow fi n : Nat) (data : List Nat) (st : Nat) (aa : Option Addr) (ac : Nat) (ps : List PK) (rest : List Nat) (W0 : World)
    (hs : HearL W0 eb ec l) (h1 : cr ≤ 1023) (hn : n = sz - 12) (h2 : 13 ≤ sz) (h3 : sz ≤ 2048) (h4 : -1 ≤ ms) (h5 : ms ≤ 255) (h6 : ma ≤ 255) (h7 : ow ≤ 255) (h8 : fi ≤ 2047) (h9 : st ≤ 4294967295)
    (hd : Rd W0 aa sz ac (vb (frameB cr ch ma ow fi data st))) (ha : AllB data) (hl : data.length = n) (hC : HearC l ch ow fi data ps rest) :
    Calls Try.prog 12 #[lv cr sz ms eb ec, .slice aa sz ac] W0 fun e w' => HearR W0 w' cr sz ch ma st (lostOf ms ma) (hearL l ch ow rest) ps e := by
  have hch := hC.lt
  have b1 := below_alloc W0 (.cells #[.int .i64 (cr : Int), .int .i64 (sz : Int), .int .i64 ms, .slice (some ⟨eb, 0, none⟩) 7 ec] 52)
  have r1 := heap_alloc_new W0 (.cells #[.int .i64 (cr : Int), .int .i64 (sz : Int), .int .i64 ms, .slice (some ⟨eb, 0, none⟩) 7 ec] 52)
  have z1 : Hid ((W0.alloc (.cells #[.int .i64 (cr : Int), .int .i64 (sz : Int), .int .i64 ms, .slice (some ⟨eb, 0, none⟩) 7 ec] 52)).heap.size = W0.heap.size + 1) := World.size_alloc _ _
  obtain ⟨P, hP⟩ : ∃ P, P = W0.heap.size := ⟨_, rfl⟩
  rw [← hP] at r1 b1 z1
  have HP := hid hP
  have HS := hid hs
  have HD := hid hd
  have HA := hid ha
  have HN := hid hn
  have HL := hid hl
  have HC := hid hC
  clear hs hP hd ha hn hl hC
  unfold lv
  go_enter Try.func12, Try.ntmps12
  refine wp_seq_k (fun K0 hK0 => ?_)
  go_wp2_with fail
  rw [← HP.out]
  refine hK0.out _ _ ?_
  generalize W0.alloc (.cells #[.int .i64 (cr : Int), .int .i64 (sz : Int), .int .i64 ms, .slice (some ⟨eb, 0, none⟩) 7 ec] 52) = V1 at *
  have b2 := below_alloc V1 (.cells #[.int .i64 0, .int .i64 0, .int .i64 0, .slice none 0 0] 52)
  have r2 := heap_alloc_new V1 (.cells #[.int .i64 0, .int .i64 0, .int .i64 0, .slice none 0 0] 52)
  rw [z1.out] at r2
  have R1 := hid (row_below r1 b2)
  have R2 := hid r2
  have B2 := hid (b1.trans (b2.mono (by rw [z1.out]; exact Nat.le_succ _)))
  have zs2 : Hid ((V1.alloc (.cells #[.int .i64 0, .int .i64 0, .int .i64 0, .slice none 0 0] 52)).heap.size = P + 2) := by
    unfold Hid; rw [World.size_alloc, z1.out]
  clear b1 b2 r1 r2
  generalize V1.alloc (.cells #[.int .i64 0, .int .i64 0, .int .i64 0, .slice none 0 0] 52) = V2 at *
  have p0 : V2.cell? ⟨P, 0, none⟩ = some (.int .i64 (cr : Int)) := by rw [cell_of_row _ _ _ _ _ _ R1.out]; rfl
  have p1 : V2.cell? ⟨P, 1, none⟩ = some (.int .i64 (sz : Int)) := by rw [cell_of_row _ _ _ _ _ _ R1.out]; rfl
  have p2 : V2.cell? ⟨P, 2, none⟩ = some (.int .i64 ms) := by rw [cell_of_row _ _ _ _ _ _ R1.out]; rfl
  have p3 : V2.cell? ⟨P, 3, none⟩ = some (.slice (some ⟨eb, 0, none⟩) 7 ec) := by rw [cell_of_row _ _ _ _ _ _ R1.out]; rfl
  have hS2 := HS.out.below (by rw [← HP.out]; exact B2.out)
  have hhr := hid (hearing_ok cr sz ms eb ec l V2 hS2 h1 h2 h3 h4 h5)
  unfold lv at hhr
  clear hS2
  refine wp_seq_k (fun K1 hK1 => ?_)
  go_wp2_with fail
  refine hhr.out.mono ?_
  rintro e V3 ⟨⟨eb2, ec2, rfl, hq, hqB⟩, hb3⟩
  have hr1 := row_below R1.out hb3
  have p0 : V3.cell? ⟨P, 0, none⟩ = some (.int .i64 (cr : Int)) := by rw [cell_of_row _ _ _ _ _ _ hr1]; rfl
  have p1 : V3.cell? ⟨P, 1, none⟩ = some (.int .i64 (sz : Int)) := by rw [cell_of_row _ _ _ _ _ _ hr1]; rfl
  have p2 : V3.cell? ⟨P, 2, none⟩ = some (.int .i64 ms) := by rw [cell_of_row _ _ _ _ _ _ hr1]; rfl
  have p3 : V3.cell? ⟨P, 3, none⟩ = some (.slice (some ⟨eb, 0, none⟩) 7 ec) := by rw [cell_of_row _ _ _ _ _ _ hr1]; rfl
  have fz := frozen_row hr1
  obtain ⟨f1, f2⟩ := four hr1 (.int .i64 (cr : Int)) (.int .i64 (sz : Int)) (.int .i64 ms) (.slice (some ⟨eb2, 0, none⟩) 7 ec2)
  have HF1 := hid f1
  have HR2 := hid (row_grown (row_below R2.out hb3) f2 (Nat.succ_ne_self P))
  have hPl := row_lt R1.out
  have hb03 : Below P W0 V3 := B2.out.trans (hb3.mono (Nat.le_of_lt hPl))
  have HB3 := hid (hb03.grown f2 (by have := hb03.size; have := row_lt hr1; omega) (fun k e => by cases e; exact Nat.le_refl _))
  have HQ3 := hid (hq.other f2 hr1 (by decide) (by decide))
  have hebP : P ≤ eb2 := by have h := zs2.out; omega
  clear f1 f2 hr1 hq hqB hb3 hb03 hhr
  unfold lv
  go_wp2_with fail
  refine hK1.out _ _ ?_
  clear p0 p1 p2 p3 fz
  generalize (((V3.setCell ⟨P, 0, none⟩ (.int .i64 (cr : Int))).setCell ⟨P, 1, none⟩ (.int .i64 (sz : Int))).setCell ⟨P, 2, none⟩ (.int .i64 ms)).setCell ⟨P, 3, none⟩ (.slice (some ⟨eb2, 0, none⟩) 7 ec2) = V4 at *
  refine wp_seq_k (fun K2 hK2 => ?_)
  go_wp2_with fail
  refine hK2.out _ _ ?_
  have hnz : 12 + n = sz := by have := HN.out; omega
  have hn12 : 1 ≤ n ∧ n ≤ 2036 := by omega
  have hup := hid (unpack_ok cr ch ma ow fi aa n ac data st V4 h1 hch h6 h7 h8 h9 (by rw [hnz]; exact HD.out.below (by rw [← HP.out]; exact HB3.out)) HA.out HL.out hn12.1 hn12.2)
  rw [hnz] at hup
  have Hnz := hid hnz
  clear hnz
  refine wp_seq_k (fun K3 hK3 => ?_)
  go_wp2_with fail
  refine hup.out.mono ?_
  rintro e V5 ⟨⟨da, dc, rfl, hdo⟩, hb5⟩
  have HF5 := hid (row_below HF1.out hb5)
  have HR5 := hid (row_below HR2.out hb5)
  have HQ5 := hid (HQ3.out.below hb5)
  have HB5 := hid (HB3.out.trans (hb5.mono (Nat.le_of_lt (row_lt HF1.out))))
  have HD5 := hid (RdT.ofOwn hdo)
  clear hup hdo hb5 HF1 HR2 HQ3 HB3
  have b6 := below_alloc V5 (.cells #[.int .i64 (cr : Int), .int .i64 (ch : Int), .int .i64 (ma : Int), .int .i64 (ow : Int), .int .i64 (fi : Int)] 46)
  have r6 := heap_alloc_new V5 (.cells #[.int .i64 (cr : Int), .int .i64 (ch : Int), .int .i64 (ma : Int), .int .i64 (ow : Int), .int .i64 (fi : Int)] 46)
  obtain ⟨H, hH⟩ : ∃ H, H = V5.heap.size := ⟨_, rfl⟩
  have HF6 := hid (row_below HF5.out b6)
  have HR6 := hid (row_below HR5.out b6)
  have HQ6 := hid (HQ5.out.below b6)
  have HD6 := hid (HD5.out.below b6)
  have HB6 := hid (HB5.out.trans (b6.mono (Nat.le_of_lt (row_lt HF5.out))))
  rw [← hH] at r6
  have HH6 := hid r6
  go_wp2_with fail
  refine hK3.out _ _ ?_
  rw [← hH]
  clear b6 r6 hH HF5 HR5 HQ5 HB5 HD5
  generalize V5.alloc (.cells #[.int .i64 (cr : Int), .int .i64 (ch : Int), .int .i64 (ma : Int), .int .i64 (ow : Int), .int .i64 (fi : Int)] 46) = V6 at *
  have p0 : V6.cell? ⟨P, 0, none⟩ = some (.int .i64 (cr : Int)) := by rw [cell_of_row _ _ _ _ _ _ HF6.out]; rfl
  have p1 : V6.cell? ⟨P, 1, none⟩ = some (.int .i64 (sz : Int)) := by rw [cell_of_row _ _ _ _ _ _ HF6.out]; rfl
  have q0 : V6.cell? ⟨H, 0, none⟩ = some (.int .i64 (cr : Int)) := by rw [cell_of_row _ _ _ _ _ _ HH6.out]; rfl
  refine wp_seq_k (fun K4 hK4 => ?_)
  go_wp2_with fail
  refine hK4.out _ _ ?_
  refine wp_seq_k (fun K5 hK5 => ?_)
  go_wp2_with fail
  refine hK5.out _ _ ?_
  refine wp_seq_k (fun K6 hK6 => ?_)
  go_wp2_with fail
  refine hK6.out _ _ ?_
  clear p0 p1 q0
  obtain ⟨e0, he0, hr0, ha0⟩ := HQ6.out.ex
  have hM0 : HM V6 P H eb2 ec2 cr sz ms cr ch ma ow fi e0 da n dc data := ⟨HF6.out, HR6.out, HH6.out, he0, hr0, HD6.out⟩
  have Ha0 := hid ha0
  have Hqe := hid (And.intro HQ6.out.le HQ6.out.mx)
  have Hk := hid HS.out.k
  clear he0 hr0 ha0 HF6 HR6 HH6 HQ6 HD6
  refine wp_seq_k (fun K7 hK7 => ?_)
  refine Tri.use (her_13 P H eb2 ec2 cr sz ms cr ch ma ow fi e0 da n dc data st h4 h5 h6) rfl ⟨⟨rfl, rfl, rfl, rfl, rfl, rfl⟩, hM0⟩ ?_
  rintro y7 V7 ⟨hS7, rfl⟩
  refine hK7.out _ _ ?_
  refine wp_seq_k (fun K8 hK8 => ?_)
  refine her_15 P H eb2 ec2 cr sz ms cr ch ma ow fi e0 da n dc data st (lostOf ms ma) h6 _ y7 V7 ⟨hS7, hM0⟩ ?_
  rintro y8 V8 ⟨hS8, hM8, hb8⟩
  refine hK8.out _ _ ?_
  have HB8 := hid (HB6.out.trans hb8)
  have HM8 := hid hM8
  clear hM0 hb8 HB6 hS7
  obtain ⟨s2, s4, s10, s11, s12, s14⟩ := hS8
  have q1 : V8.cell? ⟨H, 1, none⟩ = some (.int .i64 (ch : Int)) := by rw [cell_of_row _ _ _ _ _ _ hM8.hd]; rfl
  cases HC.out with
  | fill h hp =>
    subst h
    have hr2 := hM8.rs
    have hr1 := hM8.bx
    obtain ⟨m2, hm2⟩ : ∃ m2, m2 = (ma + 1) % 256 := ⟨_, rfl⟩
    rw [← hm2] at hr1
    obtain ⟨lo, hlo⟩ : ∃ lo, lo = lostOf ms ma := ⟨_, rfl⟩
    rw [← hlo] at s14
    have p0 : V8.cell? ⟨P, 0, none⟩ = some (.int .i64 (cr : Int)) := by rw [cell_of_row _ _ _ _ _ _ hr1]; rfl
    have p1 : V8.cell? ⟨P, 1, none⟩ = some (.int .i64 (sz : Int)) := by rw [cell_of_row _ _ _ _ _ _ hr1]; rfl
    have p2 : V8.cell? ⟨P, 2, none⟩ = some (.int .i64 (m2 : Int)) := by rw [cell_of_row _ _ _ _ _ _ hr1]; rfl
    have p3 : V8.cell? ⟨P, 3, none⟩ = some (.slice (some ⟨eb2, 0, none⟩) 7 ec2) := by rw [cell_of_row _ _ _ _ _ _ hr1]; rfl
    have t0 : V8.cell? ⟨P + 1, 0, none⟩ = some (.int .i64 0) := by rw [cell_of_row _ _ _ _ _ _ hr2]; rfl
    have t1 : V8.cell? ⟨P + 1, 1, none⟩ = some (.int .i64 0) := by rw [cell_of_row _ _ _ _ _ _ hr2]; rfl
    have t2 : V8.cell? ⟨P + 1, 2, none⟩ = some (.int .i64 0) := by rw [cell_of_row _ _ _ _ _ _ hr2]; rfl
    have t3 : V8.cell? ⟨P + 1, 3, none⟩ = some (.slice none 0 0) := by rw [cell_of_row _ _ _ _ _ _ hr2]; rfl
    have q1 : V8.cell? ⟨H, 1, none⟩ = some (.int .i64 7) := by rw [cell_of_row _ _ _ _ _ _ hM8.hd]; rfl
    have fz := frozen_row hr2
    obtain ⟨f1, f2⟩ := four hr2 (.int .i64 (cr : Int)) (.int .i64 (sz : Int)) (.int .i64 (m2 : Int)) (.slice (some ⟨eb2, 0, none⟩) 7 ec2)
    have HF1 := hid f1
    have HF2 := hid f2
    have Hm2 := hid hm2
    have Hlo := hid hlo
    clear hr1 hr2 f1 f2 hm2 hlo hM8
    rw [fr148]
    simp only [s2, s4, s10, s11, s12, s14]
    clear s2 s4 s10 s11 s12 s14
    go_wp2_with fail
    refine bodyPost_ret (results_c4 rfl _ _ (P + 1) 52 #[.int .i64 (cr : Int), .int .i64 (sz : Int), .int .i64 (m2 : Int), .slice (some ⟨eb2, 0, none⟩) 7 ec2] (0, 0) _ rfl HF1.out Try.underlying52 rfl (by kernel_rfl)) rfl ?_
    have hM := HM8.out
    refine ⟨⟨eb2, ec2, [], none, 0, ?_, ⟨⟨e0, hM.er.other HF2.out hM.rs (by decide), fun x hx => (hM.rd x hx).other HF2.out hM.rs (by decide), fun x hx => ?_⟩, fun x hx => ?_, Hqe.out.1, Hqe.out.2⟩, ⟨World.ownsRow_nil _ _ _ _, fun r h => (by cases h), fun r h => (by cases h)⟩, by rw [hp]; rfl⟩, ?_⟩
    · rw [← Hm2.out, ← Hlo.out]; rfl
    · unfold hearL; rw [if_neg (by omega)]; exact Ha0.out x hx
    · unfold hearL; rw [if_neg (by omega)]; exact Hk.out x hx
    · rw [← HP.out]
      exact HB8.out.grown HF2.out (Nat.le_of_lt (row_lt hM.bx)) (fun k e => by cases e; exact Nat.le_succ _)
  | chan h out hc ho hp hr =>
    have d7 : ((ch : Int) == 7) = false := by rw [beq_eq_false_iff_ne]; omega
    have d8 : decide ((ch : Int) = 7) = false := decide_eq_false (by omega)
    have Hhc := hid hc
    have Hho := hid ho
    have Hhp := hid hp
    have Hhr := hid hr
    clear hc ho hp hr hM8
    rw [fr148]
    simp only [s2, s4, s10, s11, s12, s14]
    clear s2 s4 s10 s11 s12 s14
    refine wp_seq_k (fun K9 hK9 => ?_)
    go_wp2_with fail
    refine hK9.out _ _ ?_
    clear q1
    refine wp_seq_k (fun K10 hK10 => ?_)
    refine Tri.use (her_18 P H eb2 ec2 cr sz (((ma + 1) % 256 : Nat) : Int) cr ch ma ow fi e0 da n dc data st (lostOf ms ma) h Hqe.out.2) rfl ⟨⟨rfl, rfl, rfl, rfl, rfl, rfl⟩, HM8.out⟩ ?_
    rintro y9 V9 ⟨hS9, s15, rfl⟩
    refine hK10.out _ _ ?_
    refine wp_seq_k (fun K11 hK11 => ?_)
    refine her_19 P H eb2 ec2 cr sz (((ma + 1) % 256 : Nat) : Int) cr ch ma ow fi e0 da n dc data st (lostOf ms ma) h hebP _ y9 V9 ⟨hS9, s15, HM8.out⟩ ?_
    rintro y10 V10 ⟨hS10, s15', hM10, hb10⟩
    refine hK11.out _ _ ?_
    have hrs := drop_rs e0 l ch ow (Ha0.out ch h)
    refine wp_seq_k (fun K12 hK12 => ?_)
    refine her_21 P H eb2 ec2 cr sz (((ma + 1) % 256 : Nat) : Int) cr ch ma ow fi _ da n dc data st (lostOf ms ma) h h7 hebP _ y10 V10 ⟨hS10, s15', hM10⟩ ?_
    rintro y11 V11 ⟨hS11, s15'', hM11, hb11⟩
    refine hK12.out _ _ ?_
    obtain ⟨E1, hE1⟩ : ∃ E, E = setE (dropE e0 ch ow) ch ⟨(((ow + 1) % 256 : Nat) : Int), (dropE e0 ch ow ch).ra, (dropE e0 ch ow ch).rn, (dropE e0 ch ow ch).rc, (dropE e0 ch ow ch).rs⟩ := ⟨_, rfl⟩
    rw [← hE1] at hM11
    have hE1s : (E1 ch).rs = dropL l ch ow := by rw [hE1, setE_self]; exact hrs
    have hE1n : (E1 ch).nx = (((ow + 1) % 256 : Nat) : Int) := by rw [hE1, setE_self]
    have hE1o : ∀ c, c ≠ ch → E1 c = e0 c := fun c hc => by rw [hE1, setE_ne _ _ hc, drop_ne _ _ hc]
    have hB11 := (HB8.out.trans hb10).trans hb11
    clear hE1 hb10 hb11 hM10
    refine wp_seq_k (fun K13 hK13 => ?_)
    refine her_22 P P H eb2 ec2 cr sz (((ma + 1) % 256 : Nat) : Int) cr ch ma ow fi E1 da n dc data st (lostOf ms ma) out ps rest h (Nat.le_refl _) (by rw [hE1s]; exact Hhc.out) Hho.out Hhp.out Hhr.out (by rw [hE1s]; exact drop_len l ch ow (Hk.out ch h)) hn12.2 _ y11 V11 ⟨hS11, s15'', hM11⟩ ?_
    rintro y12 V12 ⟨hS12, t15, ⟨L, la, lc, ra, rc, hSP, t17, hLp, hPL, hRd⟩, hM12, hb12⟩
    refine hK13.out _ _ ?_
    have hB12 := hB11.trans (hb12.mono (Nat.le_of_lt (row_lt hM11.bx)))
    refine wp_seq_k (fun K14 hK14 => ?_)
    refine her_23 P P H eb2 ec2 cr sz (((ma + 1) % 256 : Nat) : Int) cr ch ma ow fi E1 da n dc data st (lostOf ms ma) L la lc ra rc rest h hebP Hhr.out.len _ y12 V12 ⟨hS12, t15, hSP, t17, hM12, hPL, hRd⟩ ?_
    rintro y13 V13 ⟨⟨s2, s4, s10, s11, s12, s14⟩, t15', ⟨s16, s18⟩, hPL13, ⟨ra', rc', hM13⟩, hb13⟩
    refine hK14.out _ _ ?_
    have HB13 := hid (hB12.trans hb13)
    have HM13 := hid hM13
    have HPL13 := hid hPL13
    have HLp := hid hLp
    have HE1 := hid (And.intro hE1n hE1o)
    have hLl : Hid (L.length ≤ 100000) := by
      have h1 := encs_ge ps
      have h2 : L.length = ps.length := by rw [← hLp, List.length_map]
      have h3 := Hhc.out.len
      have h4 := drop_len l ch ow (Hk.out ch h)
      have h5 := HL.out
      rw [Hho.out, List.length_append] at h3
      unfold Hid
      omega
    clear hS9 s15 hS10 s15' hrs hS11 s15'' hM11 hE1s hE1n hE1o hB11 hS12 t15 hSP t17 hLp hPL hRd hM12 hb12 hB12 t15' hPL13 hM13 hb13 HB8 HM8
    rw [fr148]
    simp only [s2, s4, s10, s11, s12, s14, s16, s18]
    clear s2 s4 s10 s11 s12 s14 s16 s18
    refine wp_seq_k (fun K15 hK15 => ?_)
    go_wp2_with fail
    refine hK15.out _ _ ?_
    refine wp_seq_k (fun K16 hK16 => ?_)
    go_wp2_with fail
    refine hK16.out _ _ ?_
    refine wp_seq_k (fun K17 hK17 => ?_)
    refine Tri.use (her_l P P H eb2 ec2 cr sz (((ma + 1) % 256 : Nat) : Int) cr ch ma ow fi _ da n dc data st (lostOf ms ma) L la lc (Nat.le_refl _) (Nat.le_refl _) hLl.out) rfl ⟨⟨rfl, rfl, rfl, rfl, rfl, rfl⟩, rfl, rfl, HM13.out, HPL13.out⟩ ?_
    rintro y14 V14 ⟨⟨s2, s4, s10, s11, s12, s14⟩, ⟨ha, hc, s19, hH14⟩, hM14, hb14⟩
    refine hK17.out _ _ ?_
    have HB14 := hid (HB13.out.trans hb14)
    have HM14 := hid hM14
    have HH14 := hid hH14
    have hr2 := hM14.rs
    have hr1 := hM14.bx
    obtain ⟨m2, hm2⟩ : ∃ m2, m2 = (ma + 1) % 256 := ⟨_, rfl⟩
    rw [← hm2] at hr1
    obtain ⟨lo, hlo⟩ : ∃ lo, lo = lostOf ms ma := ⟨_, rfl⟩
    rw [← hlo] at s14
    obtain ⟨ml, hml⟩ : ∃ ml, ml = (toldM L).length := ⟨_, rfl⟩
    rw [← hml] at s19
    have p0 : V14.cell? ⟨P, 0, none⟩ = some (.int .i64 (cr : Int)) := by rw [cell_of_row _ _ _ _ _ _ hr1]; rfl
    have p1 : V14.cell? ⟨P, 1, none⟩ = some (.int .i64 (sz : Int)) := by rw [cell_of_row _ _ _ _ _ _ hr1]; rfl
    have p2 : V14.cell? ⟨P, 2, none⟩ = some (.int .i64 (m2 : Int)) := by rw [cell_of_row _ _ _ _ _ _ hr1]; rfl
    have p3 : V14.cell? ⟨P, 3, none⟩ = some (.slice (some ⟨eb2, 0, none⟩) 7 ec2) := by rw [cell_of_row _ _ _ _ _ _ hr1]; rfl
    have t0 : V14.cell? ⟨P + 1, 0, none⟩ = some (.int .i64 0) := by rw [cell_of_row _ _ _ _ _ _ hr2]; rfl
    have t1 : V14.cell? ⟨P + 1, 1, none⟩ = some (.int .i64 0) := by rw [cell_of_row _ _ _ _ _ _ hr2]; rfl
    have t2 : V14.cell? ⟨P + 1, 2, none⟩ = some (.int .i64 0) := by rw [cell_of_row _ _ _ _ _ _ hr2]; rfl
    have t3 : V14.cell? ⟨P + 1, 3, none⟩ = some (.slice none 0 0) := by rw [cell_of_row _ _ _ _ _ _ hr2]; rfl
    have fz := frozen_row hr2
    obtain ⟨f1, f2⟩ := four hr2 (.int .i64 (cr : Int)) (.int .i64 (sz : Int)) (.int .i64 (m2 : Int)) (.slice (some ⟨eb2, 0, none⟩) 7 ec2)
    have HF1 := hid f1
    have HF2 := hid f2
    have Hm2 := hid hm2
    have Hlo := hid hlo
    have Hml := hid hml
    clear hr1 hr2 f1 f2 hm2 hlo hml hM14 hH14 hb14 HM13 HPL13 HB13
    rw [fr148]
    simp only [s2, s4, s10, s11, s12, s14, s19]
    clear s2 s4 s10 s11 s12 s14 s19
    go_wp2_with fail
    refine bodyPost_ret (results_c4 rfl _ _ (P + 1) 52 #[.int .i64 (cr : Int), .int .i64 (sz : Int), .int .i64 (m2 : Int), .slice (some ⟨eb2, 0, none⟩) 7 ec2] (0, 0) _ rfl HF1.out Try.underlying52 rfl (by kernel_rfl)) rfl ?_
    have hM := HM14.out
    obtain ⟨hE1n, hE1o⟩ := HE1.out
    refine ⟨⟨eb2, ec2, toldM L, ha, hc, ?_, ⟨⟨_, hM.er.other HF2.out hM.rs (by decide), fun x hx => (hM.rd x hx).other HF2.out hM.rs (by decide), fun x hx => ?_⟩, fun x hx => ?_, Hqe.out.1, Hqe.out.2⟩, by rw [← HP.out]; exact HH14.out.other HF2.out hM.rs (by decide) (by decide), by rw [told_map, HLp.out]⟩, ?_⟩
    · rw [← Hm2.out, ← Hlo.out, ← Hml.out]
      exact rfl
    · unfold hearL
      by_cases e : x = ch
      · rw [if_pos e, e, setE_self]
        show LE.mk _ _ = _
        rw [hE1n]
      · rw [if_neg e, setE_ne _ _ e, hE1o x e]
        exact Ha0.out x hx
    · unfold hearL
      by_cases e : x = ch
      · rw [if_pos e]
        exact ⟨by show (-1 : Int) ≤ (((ow + 1) % 256 : Nat) : Int); omega, by show (((ow + 1) % 256 : Nat) : Int) ≤ 255; omega, Hhr.out.len, fun h => absurd (show (((ow + 1) % 256 : Nat) : Int) < 0 from h) (by omega), Hhr.out.all⟩
      · rw [if_neg e]; exact Hk.out x hx
    · rw [← HP.out]
      exact HB14.out.grown HF2.out (Nat.le_of_lt (row_lt hM.bx)) (fun k e => by cases e; exact Nat.le_succ _)
end Go.Proofs.Ytjiipmalahhcpaa
/- FrameCarries, plain: what load does, in packets. -/
namespace Go.Proofs.Ytjiipmalahhcpaa
set_option linter.unusedVariables false
open Go.RowKit

def realP (p : PK) : Bool := !(p.ap == 2047)
def reals (l : List PK) : List PK := l.filter realP
theorem reals_append (a b : List PK) : reals (a ++ b) = reals a ++ reals b := List.filter_append ..
def hdE (q : List PK) : List Nat := (q.map PK.enc).headD []
def restB (q : List PK) (g : Nat) : List Nat := (hdE q).take g
theorem restB_zero (q : List PK) : restB q 0 = [] := List.take_zero
theorem restB_cons (p : PK) (T : List PK) (g : Nat) : restB (p :: T) g = p.enc.take g := rfl
theorem restB_nil (g : Nat) : restB [] g = [] := by unfold restB hdE; simp
/-- after at least one step of load -/
structure LK (room : Nat) (q0 : List PK) (g0 : Nat) (s : LS) (dn q : List PK) : Prop where
  full : s.gone = 0 ∨ s.data.length = room
  a : g0 = 0 → s.first = 0
  b : 0 < g0 → (s.first = 2047 ∧ dn = [] ∧ s.gone = g0 + room ∧ s.data.length = room) ∨ (s.first = 2047 ∧ s.gone = 0 ∧ ∃ p, dn = [p] ∧ g0 < p.enc.length) ∨ (∃ p tl, dn = p :: tl ∧ g0 < p.enc.length ∧ s.first < s.data.length ∧ restB q0 g0 ++ s.data.take s.first = p.enc)
/-- load, in packets: dn are whole now, q wait -/
structure LJ (room : Nat) (q0 : List PK) (g0 : Nat) (s : LS) (dn q : List PK) : Prop where
  ps : s.ps = q.map PK.enc
  str : restB q0 g0 ++ s.data = encs dn ++ restB q s.gone
  fl : reals q0 = reals dn ++ reals q
  okd : ∀ p ∈ dn, p.Ok
  okq : ∀ p ∈ q, p.Ok
  g1 : ∀ p T, q = p :: T → s.gone < p.enc.length
  gn : q = [] → s.gone = 0
  le : s.data.length ≤ room
  st : (s.data = [] ∧ dn = [] ∧ q = q0 ∧ s.gone = g0 ∧ s.first = 2047) ∨ LK room q0 g0 s dn q
def fillP (k : Nat) : PK := ⟨false, false, 2047, 3, 0, List.replicate (k - 6) 0⟩
theorem fillP_enc (k : Nat) : (fillP k).enc = fillB k := rfl
theorem fillP_ok (k : Nat) (h : 7 ≤ k) (h2 : k ≤ 65542) : (fillP k).Ok := ⟨fun x hx => by rw [List.eq_of_mem_replicate hx]; omega, by show 2047 ≤ 2047; omega, by show 3 ≤ 3; omega, by show 0 ≤ 16383; omega, by show 0 < (List.replicate _ _).length; rw [List.length_replicate]; omega, by show (List.replicate _ _).length ≤ _; rw [List.length_replicate]; omega⟩
theorem LJ.up {room : Nat} {q0 : List PK} {g0 : Nat} {s : LS} {dn q : List PK} (h : LJ room q0 g0 s dn q) (hr : room ≤ 2036) (hq0 : q0 ≠ []) : ∃ p T, LJ room q0 g0 (s.up room) dn (p :: T) ∧ (s.up room).data = s.data ∧ (s.up room).gone = s.gone ∧ (s.up room).first = s.first := by
  unfold LS.up
  cases q with
  | cons p T =>
    have : s.ps ≠ [] := by rw [h.ps]; simp
    rw [if_neg this]
    exact ⟨p, T, h, rfl, rfl, rfl⟩
  | nil =>
    have : s.ps = [] := by rw [h.ps]; rfl
    rw [if_pos this]
    have hg := h.gn rfl
    have hs := h.str
    rw [restB_nil] at hs
    have hk : LK room q0 g0 s dn [] := by
      rcases h.st with ⟨_, _, h3, _⟩ | h3
      · exact absurd h3.symm hq0
      · exact h3
    refine ⟨fillP (max 7 (room - s.data.length)), [], ⟨rfl, ?_, ?_, h.okd, ?_, ?_, (fun e => by cases e), h.le, .inr ⟨hk.full, hk.a, hk.b⟩⟩, rfl, rfl, rfl⟩
    · show restB q0 g0 ++ s.data = encs dn ++ restB _ s.gone
      rw [hg, restB_zero, hs]
    · rw [h.fl]; rfl
    · intro p hp
      rw [List.mem_singleton] at hp
      subst hp
      exact fillP_ok _ (Nat.le_max_left _ _) (by omega)
    · intro p T e
      simp only [List.cons.injEq] at e
      rw [← e.1, fillP_enc, fillB_len _ (Nat.le_max_left _ _)]
      show s.gone < _
      omega
theorem LJ.step {room : Nat} {q0 : List PK} {g0 : Nat} {s : LS} {dn q : List PK} (h : LJ room q0 g0 s dn q) (hr : room ≤ 2036) (hq0 : q0 ≠ []) (hd : s.data.length < room) : ∃ dn' q', LJ room q0 g0 (s.step room) dn' q' ∧ LK room q0 g0 (s.step room) dn' q' ∧ s.data.length < (s.step room).data.length := by
  obtain ⟨p, T, hu, e1, e2, e3⟩ := h.up hr hq0
  unfold LS.step
  generalize s.up room = u at *
  have hps := hu.ps
  have hg := hu.g1 p T rfl
  have hhd : u.ps.headD [] = p.enc := by rw [hps]; rfl
  have htl : u.ps.tail = T.map PK.enc := by rw [hps]; rfl
  have hs := hu.str
  rw [restB_cons] at hs
  have hpl : (p.enc.drop u.gone).length = p.enc.length - u.gone := List.length_drop
  have hul : u.data.length < room := by rw [e1]; exact hd
  rw [← e1]
  dsimp only
  rw [hhd, htl]
  by_cases hn : min (p.enc.drop u.gone).length (room - u.data.length) = (p.enc.drop u.gone).length
  · rw [if_pos hn, if_pos hn, hn, List.take_length]
    have hlen : u.data.length + (p.enc.length - u.gone) ≤ room := by omega
    have hstr : restB q0 g0 ++ (u.data ++ p.enc.drop u.gone) = encs (dn ++ [p]) ++ restB T 0 := by
      rw [← List.append_assoc, hs, restB_zero, encs_append, encs_cons, encs_nil, List.append_nil, List.append_nil, List.append_assoc, List.take_append_drop]
    have hK : LK room q0 g0 ⟨T.map PK.enc, 0, u.data ++ p.enc.drop u.gone, if u.gone = 0 then min u.first u.data.length else u.first⟩ (dn ++ [p]) T := by
      refine ⟨.inl rfl, fun h0 => ?_, fun h0 => ?_⟩
      · rcases hu.st with ⟨j1, j2, j3, j4, j5⟩ | hk
        · show (if u.gone = 0 then min u.first u.data.length else u.first) = 0
          rw [j4, if_pos h0, j1]
          simp
        · have := hk.a h0
          show (if u.gone = 0 then min u.first u.data.length else u.first) = 0
          rw [this]
          split <;> simp
      · rcases hu.st with ⟨j1, j2, j3, j4, j5⟩ | hk
        · refine .inr (.inl ⟨?_, rfl, p, ?_, ?_⟩)
          · show (if u.gone = 0 then min u.first u.data.length else u.first) = 2047
            rw [if_neg (by omega), j5]
          · rw [j2]; rfl
          · rw [← j4]; exact hg
        · have hz : u.gone = 0 := by
            rcases hk.full with h | h
            · exact h
            · omega
          rcases hk.b h0 with ⟨_, _, h3, _⟩ | ⟨h1, h2, p0, h3, h4⟩ | ⟨p0, tl, h1, h2, h3, h4⟩
          · omega
          · refine .inr (.inr ⟨p0, [p], by rw [h3]; rfl, h4, ?_, ?_⟩)
            · show (if u.gone = 0 then min u.first u.data.length else u.first) < (u.data ++ p.enc.drop u.gone).length
              rw [if_pos hz, List.length_append, hpl]
              omega
            · show restB q0 g0 ++ (u.data ++ p.enc.drop u.gone).take (if u.gone = 0 then min u.first u.data.length else u.first) = p0.enc
              rw [if_pos hz, h1, Nat.min_eq_right (by omega), List.take_left, hs, h3, hz]
              show encs [p0] ++ [] = _
              rw [encs_cons, encs_nil, List.append_nil, List.append_nil]
          · refine .inr (.inr ⟨p0, tl ++ [p], by rw [h1]; rfl, h2, ?_, ?_⟩)
            · show (if u.gone = 0 then min u.first u.data.length else u.first) < (u.data ++ p.enc.drop u.gone).length
              rw [if_pos hz, List.length_append]
              omega
            · show restB q0 g0 ++ (u.data ++ p.enc.drop u.gone).take (if u.gone = 0 then min u.first u.data.length else u.first) = p0.enc
              rw [if_pos hz, Nat.min_eq_left (by omega), List.take_append_of_le_length (by omega)]
              exact h4
    refine ⟨dn ++ [p], T, ⟨rfl, hstr, ?_, ?_, fun x hx => hu.okq x (List.mem_cons_of_mem _ hx), fun p2 T2 e => ?_, fun _ => rfl, ?_, .inr hK⟩, hK, ?_⟩
    · rw [hu.fl, reals_append, List.append_assoc]
      congr 1
      exact reals_append [p] T
    · intro x hx
      rcases List.mem_append.1 hx with h | h
      · exact hu.okd x h
      · rw [List.mem_singleton] at h
        subst h
        exact hu.okq _ List.mem_cons_self
    · rw [p2.len]
      show 0 < _
      omega
    · show (u.data ++ p.enc.drop u.gone).length ≤ room
      rw [List.length_append, hpl]
      exact hlen
    · show u.data.length < (u.data ++ p.enc.drop u.gone).length
      rw [List.length_append, hpl]
      omega
  · rw [if_neg hn, if_neg hn]
    have hmn : min (p.enc.drop u.gone).length (room - u.data.length) = room - u.data.length := by omega
    rw [hmn]
    have hlt : room - u.data.length < p.enc.length - u.gone := by omega
    obtain ⟨n, hne⟩ : ∃ n, n = room - u.data.length := ⟨_, rfl⟩
    rw [← hne] at hlt ⊢
    have htl2 : ((p.enc.drop u.gone).take n).length = n := by rw [List.length_take, hpl]; omega
    have hlen : (u.data ++ (p.enc.drop u.gone).take n).length = room := by rw [List.length_append, htl2]; omega
    have hK : LK room q0 g0 ⟨u.ps, u.gone + n, u.data ++ (p.enc.drop u.gone).take n, if u.gone = 0 then min u.first u.data.length else u.first⟩ dn (p :: T) := by
      refine ⟨.inr hlen, fun h0 => ?_, fun h0 => ?_⟩
      · rcases hu.st with ⟨j1, j2, j3, j4, j5⟩ | hk
        · show (if u.gone = 0 then min u.first u.data.length else u.first) = 0
          rw [j4, if_pos h0, j1]
          simp
        · have := hk.a h0
          show (if u.gone = 0 then min u.first u.data.length else u.first) = 0
          rw [this]
          split <;> simp
      · rcases hu.st with ⟨j1, j2, j3, j4, j5⟩ | hk
        · refine .inl ⟨?_, j2, ?_, hlen⟩
          · show (if u.gone = 0 then min u.first u.data.length else u.first) = 2047
            rw [if_neg (by omega), j5]
          · show u.gone + n = g0 + room
            rw [j4, hne, j1]
            simp
        · have hz : u.gone = 0 := by
            rcases hk.full with h | h
            · exact h
            · omega
          rcases hk.b h0 with ⟨_, _, h3, _⟩ | ⟨h1, h2, p0, h3, h4⟩ | ⟨p0, tl, h1, h2, h3, h4⟩
          · omega
          · refine .inr (.inr ⟨p0, [], h3, h4, ?_, ?_⟩)
            · show (if u.gone = 0 then min u.first u.data.length else u.first) < (u.data ++ (p.enc.drop u.gone).take n).length
              rw [if_pos hz, hlen]
              omega
            · show restB q0 g0 ++ (u.data ++ (p.enc.drop u.gone).take n).take (if u.gone = 0 then min u.first u.data.length else u.first) = p0.enc
              rw [if_pos hz, h1, Nat.min_eq_right (by omega), List.take_left, hs, h3, hz]
              show encs [p0] ++ [] = _
              rw [encs_cons, encs_nil, List.append_nil, List.append_nil]
          · refine .inr (.inr ⟨p0, tl, h1, h2, ?_, ?_⟩)
            · show (if u.gone = 0 then min u.first u.data.length else u.first) < (u.data ++ (p.enc.drop u.gone).take n).length
              rw [if_pos hz, hlen]
              omega
            · show restB q0 g0 ++ (u.data ++ (p.enc.drop u.gone).take n).take (if u.gone = 0 then min u.first u.data.length else u.first) = p0.enc
              rw [if_pos hz, Nat.min_eq_left (by omega), List.take_append_of_le_length (by omega)]
              exact h4
    refine ⟨dn, p :: T, ⟨hps, ?_, hu.fl, hu.okd, hu.okq, fun p2 T2 e => ?_, (fun e => by cases e), Nat.le_of_eq hlen, .inr hK⟩, hK, ?_⟩
    · show restB q0 g0 ++ (u.data ++ (p.enc.drop u.gone).take n) = encs dn ++ restB (p :: T) (u.gone + n)
      rw [← List.append_assoc, hs, restB_cons, List.append_assoc, List.take_add]
    · cases e
      show u.gone + n < _
      omega
    · show u.data.length < (u.data ++ (p.enc.drop u.gone).take n).length
      rw [hlen]
      exact hul
theorem LJ.all {room : Nat} {q0 : List PK} {g0 : Nat} (hr : room ≤ 2036) (hq0 : q0 ≠ []) : ∀ (f : Nat) (s : LS) (dn q : List PK), LJ room q0 g0 s dn q → (LK room q0 g0 s dn q ∨ s.data.length < room) → room - s.data.length ≤ f → ∃ dn' q', LJ room q0 g0 (ldN room f s) dn' q' ∧ LK room q0 g0 (ldN room f s) dn' q' ∧ (ldN room f s).data.length = room
  | 0, s, dn, q, h, hk, hf => by
    have := h.le
    rcases hk with hk | hk
    · exact ⟨dn, q, h, hk, by show s.data.length = room; omega⟩
    · omega
  | f + 1, s, dn, q, h, hk, hf => by
    have hle := h.le
    unfold ldN
    by_cases hd : s.data.length < room
    · rw [if_pos hd]
      obtain ⟨dn', q', h1, h2, h3⟩ := h.step hr hq0 hd
      exact LJ.all hr hq0 f _ dn' q' h1 (.inl h2) (by omega)
    · rw [if_neg hd]
      rcases hk with hk | hk
      · exact ⟨dn, q, h, hk, by omega⟩
      · exact absurd hk hd
/-- load, the whole -/
theorem ld_pk {room : Nat} (l : LQ) (q0 : List PK) (hl : l.Ok) (hps : l.ps = q0.map PK.enc) (hok : ∀ p ∈ q0, p.Ok) (hr0 : 0 < room) (hr : room ≤ 2036) (hq0 : q0 ≠ []) :
    ∃ dn q, LJ room q0 l.gone (ldOf l room) dn q ∧ LK room q0 l.gone (ldOf l room) dn q ∧ (ldOf l room).data.length = room := by
  have h0 : LJ room q0 l.gone ⟨l.ps, l.gone, [], 2047⟩ [] q0 := by
    refine ⟨hps, by rw [List.append_nil]; rfl, rfl, (fun p hp => by cases hp), hok, fun p T e => ?_, fun e => absurd e hq0, Nat.zero_le _, .inl ⟨rfl, rfl, rfl, rfl, rfl⟩⟩
    exact hl.g1 p.enc (T.map PK.enc) (by rw [hps, e]; rfl)
  exact LJ.all hr hq0 room _ [] q0 h0 (.inr hr0) (Nat.sub_le _ _)
end Go.Proofs.Ytjiipmalahhcpaa
