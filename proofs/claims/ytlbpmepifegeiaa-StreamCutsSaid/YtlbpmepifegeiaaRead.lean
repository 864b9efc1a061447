/- Stream: read. -/
import Derived.Test.YtlbpmepifegeiaaReadP
import Derived.Test.YtlbpmepifegeiaaAppendWide
import Derived.Test.YtlbpmepifegeiaaFlat
namespace Go.Proofs.Ytlbpmepifegeiaa
set_option linter.unusedVariables false
set_option linter.unusedSimpArgs false
open Go.RowKit

theorem Try.info35 : (Try.prog.info? 35).map (fun i => (i.zero, i.size, i.bytes)) = some (some (.agg #[.int .i64 0, .bool false, .int .i64 0, .slice none 0 0]), 4, 48) := by kernel_rfl

theorem onlyOn_normal {Q : Exit → Act → World → Prop} {a : Act} {w : World} (h : Q .normal a w) : OnlyOn Q .normal a w := h
def flipK (t : Bool) (l : List Nat) (k : Nat) : List Nat := if t then flipTo l k else l
theorem flipK_len (t : Bool) (l : List Nat) (k : Nat) : (flipK t l k).length = l.length := by unfold flipK; split <;> simp [flipTo_len]
theorem flipK_all (t : Bool) (l : List Nat) : flipK t l l.length = flipB t l := rfl
/-- nothing is read: the frame is not whole -/
theorem read_no (sb : Nat) (s : SyV) (B : List Nat) (W : World) (h : SyIn W sb s B) (hp : B.length < s.pos + 32 + 8 * s.L) (hpl : s.pos ≤ B.length + 100) :
    Calls Try.prog 24 #[.pointer (some ⟨sb, 0, none⟩)] W fun e w' => e = .returned (.bool false) ∧ Below W.heap.size W w' := by
  have cL := h.at_.cL
  have c6 := h.at_.cpos
  have hL := h.rL
  have hbig := h.big
  obtain ⟨n, hn⟩ : ∃ n, n = 8 * s.L := ⟨_, rfl⟩
  have e1 : 8 * (s.L : Int) = (n : Int) := by omega
  have e2 : IntKind.i64.wrap (n : Int) = (n : Int) := IntWalk.i64_in _ (by omega)
  obtain ⟨q, hq⟩ : ∃ q, q = s.pos + 32 := ⟨_, rfl⟩
  have e3 : (s.pos : Int) + 32 = (q : Int) := by omega
  have e4 : IntKind.i64.wrap (q : Int) = (q : Int) := IntWalk.i64_in _ (by omega)
  have hd : decide (q + n ≤ B.length) = false := by simp; omega
  have hq2 : q < 1125899906842624 ∧ n < 1125899906842624 := by omega
  clear hq hn hp hpl
  go_enter Try.func24, Try.ntmps24
  go_wp2_with fail
  refine (has_in h q n hq2.1 hq2.2).mono ?_
  rintro e V ⟨rfl, bV⟩
  rw [hd]
  go_wp2_with fail
  go_ret
  exact ⟨rfl, bV⟩

set_option maxRecDepth 100000 in
set_option maxHeartbeats 4000000 in
theorem read_yes (B0 sb : Nat) (s : SyV) (B : List Nat) (F : List Fd) (W : World) (h : SyIn W sb s B) (hp : s.base ≤ s.pos) (hpl : s.pos + 32 + 8 * s.L ≤ B.length) (hB0 : B0 ≤ W.heap.size)
    (hf : W.ownsRow B0 35 4 (.slice s.fa s.fn s.fc) s.fn (fcs F)) (hfn : s.fn ≤ 4000000000000) :
    Calls Try.prog 24 #[.pointer (some ⟨sb, 0, none⟩)] W fun e w' => e = .returned (.bool true) ∧ ∃ (fa : Option Addr) (fc : Nat) (f : Fd), f.pos = s.pos ∧ f.tu = s.tu ∧ f.mi = s.mi ∧ f.ds = frD s.L B s.pos s.tu ∧ f.In w' W.heap.size ∧
      SyIn w' sb { s with pos := s.pos + 32 + 8 * s.L, st := 29, fa := fa, fn := s.fn + 1, fc := fc } B ∧ w'.ownsRow B0 35 4 (.slice fa (s.fn + 1) fc) (s.fn + 1) (fcs (F ++ [f])) ∧
      (∀ k, (Value.slice fa (s.fn + 1) fc).ownBlock = some k → (Value.slice s.fa s.fn s.fc).ownBlock = some k ∨ W.heap.size ≤ k) ∧ KeptP (fun k => k = sb ∨ (Value.slice s.fa s.fn s.fc).ownBlock = some k) W w' := by
  obtain ⟨i0, hi0, hz0, hz1, hz2⟩ := info_parts Try.info35
  have cL := h.at_.cL
  have c6 := h.at_.cpos
  have hL := h.rL
  have hbig := h.big
  have hlen := h.len
  obtain ⟨n, hn⟩ : ∃ n, n = 8 * s.L := ⟨_, rfl⟩
  have e1 : 8 * (s.L : Int) = (n : Int) := by omega
  have e2 : IntKind.i64.wrap (n : Int) = (n : Int) := IntWalk.i64_in _ (by omega)
  obtain ⟨q, hq⟩ : ∃ q, q = s.pos + 32 := ⟨_, rfl⟩
  have e3 : (s.pos : Int) + 32 = (q : Int) := by omega
  have e4 : IntKind.i64.wrap (q : Int) = (q : Int) := IntWalk.i64_in _ (by omega)
  have hd : decide (q + n ≤ B.length) = true := by simp; omega
  have hq2 : q < 1125899906842624 ∧ n < 1125899906842624 := by omega
  have Hq := hid hq
  have Hn := hid hn
  have hn8 : 8 ≤ n ∧ n ≤ 16384 := by omega
  have Hpl := hid hpl
  clear hq hn hpl
  go_enter Try.func24, Try.ntmps24
  go_wp2_with fail
  refine (has_in h q n hq2.1 hq2.2).mono ?_
  rintro e V ⟨rfl, bV⟩
  rw [hd]
  have hS := h.below bV
  clear cL c6 e1 e2 hd
  go_upto_region 4 with fail
  obtain ⟨bb, bo, hba, hbl, _⟩ := hS.rd.mem (by have := Hq.out; have := Hn.out; have := Hpl.out; omega)
  obtain ⟨d, hd⟩ : ∃ d, d = q - s.base := ⟨_, rfl⟩
  have hrd := hS.rd
  rw [hba] at hrd
  have hdn : d + n ≤ s.bn := by have := Hq.out; have := Hn.out; have := Hpl.out; omega
  have hx := hrd.sub d n hdn
  have hx1 : All1 ((((B.drop s.base).drop d).take n)) := ((h.one.drop _).drop _).take _
  have hxe : ((B.drop s.base).drop d).take n = (B.drop (s.pos + 32)).take (8 * s.L) := by
    rw [List.drop_drop, ← Hn.out, hd, ← Hq.out, show s.base + (q - s.base) = q by have := Hq.out; omega]
  have HFD : Hid (frD s.L B s.pos s.tu = Scr (bytesOf (flipB s.tu (((B.drop s.base).drop d).take n)))) := by show _ = _; unfold frD; rw [hxe]
  have hxl : (((B.drop s.base).drop d).take n).length = n := by have := hx.len; rwa [vb_len] at this
  have hbc := hrd.le
  clear hxe
  generalize ((B.drop s.base).drop d).take n = x at *
  have Hxl := hid hxl
  clear hxl hrd
  obtain ⟨c1, hc1⟩ : ∃ c1, c1 = s.bc - d := ⟨_, rfl⟩
  rw [← hc1] at hx
  have e5 : (q : Int) - (s.base : Int) = (d : Int) := by have := Hq.out; omega
  have e6 : IntKind.i64.wrap (d : Int) = (d : Int) := IntWalk.i64_in _ (by omega)
  have e7 : (0 : Int) ≤ (d : Int) := by omega
  have e8 : (d : Int) ≤ (s.bn : Int) := by omega
  have e9 : (n : Int) ≤ (c1 : Int) := by omega
  have e10 : ¬ s.bc = d := by omega
  have e11 : (0 : Int) ≤ (n : Int) := by omega
  have e12 := hc1.symm
  have Hc1 := hid hc1
  have Hd := hid hd
  clear hc1 hd
  have n4 : ∀ w', Below V.heap.size V.drew w' → w'.cell? ⟨sb, 4, none⟩ = some (.slice (some ⟨bb, bo, none⟩) s.bn s.bc) := fun w' hw => by
    have := ((hS.below ((Below.refl _ V).drew)).below hw).at_.cb
    rwa [hba] at this
  have n5 : ∀ w', Below V.heap.size V.drew w' → w'.cell? ⟨sb, 5, none⟩ = some (.int .i64 (s.base : Int)) := fun w' hw => ((hS.below ((Below.refl _ V).drew)).below hw).at_.cbase
  have n6 : ∀ w', Below V.heap.size V.drew w' → w'.cell? ⟨sb, 6, none⟩ = some (.int .i64 (s.pos : Int)) := fun w' hw => ((hS.below ((Below.refl _ V).drew)).below hw).at_.cpos
  have Hba := hid hba
  clear hba
  refine wp_region_can_all [17] [0, 1, 2, 3, 4, 5, 6, 7, 8, 9, 10, 11, 12, 13, 14, 15, 16, 17, 18] (Below V.heap.size) (fun _ => Below.refl _ _) (fun _ _ _ h k => h.trans k) (by kernel_rfl) (by kernel_rfl) ?_
  simp only [List.map_cons, List.map_nil, List.contains_cons, List.contains_nil, List.getD_cons_zero, List.getD_cons_succ, Nat.reduceBEq, Bool.or_false, Bool.or_true]
  repeat (refine wpL_do rfl (fun w' hw' => (by go_simp; rfl)) ?_; simp only [Act.put, List.setIfInBounds_toArray, List.set_cons_succ, List.set_cons_zero])
  refine wpL_call rfl (fun K hK => ?_)
  clear n4 n5 n6 e5 e6 e7 e8 e9 e10 e11 e12 e3 e4
  go_wp2_with fail
  refine (clone_any (some ⟨bb, bo + d, none⟩) n c1 x V.drew (hx.below ((Below.refl _ V).drew)) (by omega)).mono ?_
  rintro e V2 ⟨xa, xc, rfl, oX, b2⟩
  have b2' : Below V.heap.size V.drew V2 := b2
  refine hK _ _ b2' ?_
  clear hK K
  try simp only [Act.put, List.setIfInBounds_toArray, List.set_cons_succ, List.set_cons_zero]
  have b2 : Below V.heap.size V V2 := (Below.refl _ V).drew.trans b2
  have oX : V2.ownsRow V.heap.size 5 1 (.slice xa n xc) n (vb x) := oX
  have hS := hS.below b2
  have bW := bV.trans (b2.mono bV.size)
  clear b2 b2' hx
  repeat (refine wpL_do rfl (fun w' hw' => (by go_simp; rfl)) ?_; simp only [Act.put, List.setIfInBounds_toArray, List.set_cons_succ, List.set_cons_zero])
  refine wpL_nil ?_
  obtain ⟨xg, rfl⟩ := own_addr oX (by omega)
  have oX := ownsRow_mono oX bV.size
  clear bV hS
  go_wp2_with fail
  go_loopw [43] (fun i wr => ∃ k : Nat, i = .int .i64 (k : Int) ∧ k ≤ n ∧ wr.ownsRow W.heap.size 5 1 (.slice (some ⟨xg, 0, none⟩) n xc) n (vb (flipK s.tu x k)) ∧ Below W.heap.size W wr) (fun i _ => n - (intOf i).toNat)
  case atStart => exact ⟨0, rfl, Nat.zero_le _, by rw [show flipK s.tu x 0 = x by unfold flipK flipTo; split <;> rfl]; exact oX, bW⟩
  case round =>
    clear oX bW
    obtain ⟨k, rfl, hk, oX, bW⟩ := hrel
    by_cases hlt : k < n
    · have t1 : (k : Int) < (n : Int) := by omega
      have c7 := (h.below bW).at_.ctu
      cases htu : s.tu with
      | false =>
        rw [htu] at c7 oX
        go_wp2_with fail
        go_roundw
        case rel => exact ⟨k + 1, by go_num, by omega, oX, bW⟩
        case measure => simp [intOf]; omega
      | true =>
        rw [htu] at c7 oX
        have hxk : nth (flipTo x k) k = nth x k := by rw [flipTo_nth _ _ _ (by rw [Hxl.out]; omega), if_neg (Nat.lt_irrefl _)]
        have cx : wr.cell? ⟨xg, k, none⟩ = some (.int .u8 (nth x k : Nat)) := by
          have := oX.cellAt k (by omega)
          rw [vb_get _ _ (by rw [flipK_len, Hxl.out]; exact hlt)] at this
          rw [← hxk]; exact this
        have fx := oX.frozenAt k
        have hb := hx1.nth k
        have e1 := u8_xor_nat (nth x k) 1 (by omega) (by decide)
        have e1 : bits BinOp.xor IntKind.u8 (nth x k : Int) 1 = ((nth x k ^^^ 1 : Nat) : Int) := e1
        have HS : Hid ((flipK true x k).set k (nth x k ^^^ 1) = flipK true x (k + 1)) := rfl
        generalize nth x k = y at *
        generalize y ^^^ 1 = z at *
        obtain ⟨oX2, g2⟩ := oX.stored k (.int .u8 (z : Int))
        rw [vb_set, HS.out] at oX2
        have bW2 := bW.grown g2 bW.size (fun b e => by cases e; exact (oX.lt xg rfl).1)
        obtain ⟨w2, hw2⟩ : ∃ w2, w2 = wr.setCell ⟨xg, k, none⟩ (.int .u8 (z : Int)) := ⟨_, rfl⟩
        rw [← hw2] at oX2 bW2
        have hw2' := hw2.symm
        clear hw2 g2 hxk
        go_wp2_with fail
        go_roundw
        case rel => exact ⟨k + 1, by go_num, by omega, oX2, bW2⟩
        case measure => simp [intOf]; omega
    · obtain rfl : k = n := by omega
      have hfl : flipK s.tu x k = flipB s.tu x := by rw [← Hxl.out]; exact flipK_all _ _
      rw [hfl] at oX
      clear hfl
      have hfl1 := flipB_1 s.tu hx1
      have hfl2 := flipB_len s.tu x
      generalize flipB s.tu x = y at *
      have Hfl2 := hid hfl2
      clear hfl2
      go_wp2_with fail
      refine (bytes_ok xg 0 s.L k xc y wr Hn.out.symm (by omega) (Rd.ofOwn oX) hfl1 (by omega)).mono ?_
      rintro e V3 ⟨da, dc, rfl, oD, b3⟩
      have bW := bW.trans (b3.mono bW.size)
      have hdb := bytesOf_b hfl1
      generalize bytesOf y = z at *
      clear b3 oX
      go_upto_region 12 with fail
      have hS := h.below bW
      have hf3 := ownsRow_below hf bW
      have hsf : (Value.slice s.fa s.fn s.fc).ownBlock ≠ some sb := by
        rcases own_ne hf (show W.heap[sb]? = _ from h.at_) (by decide) with h1 | h1
        · rw [h1]; simp
        · exact h1
      have keep : ∀ (u w' : World), SyAt u sb s → u.grownBy w' (Value.slice s.fa s.fn s.fc).ownBlock → SyAt w' sb s := fun u w' hu hg => (hg.block sb hu.lt (fun e => hsf e.symm)).trans hu
      have hS3 : SyAt V3.drew sb s := hS.at_
      have n10 : ∀ w', V3.drew.grownBy w' (Value.slice s.fa s.fn s.fc).ownBlock → w'.cell? ⟨sb, 10, none⟩ = some (.slice s.fa s.fn s.fc) := fun w' hg => (keep _ _ hS3 hg).cf
      have n6 : ∀ w', V3.drew.grownBy w' (Value.slice s.fa s.fn s.fc).ownBlock → w'.cell? ⟨sb, 6, none⟩ = some (.int .i64 (s.pos : Int)) := fun w' hg => (keep _ _ hS3 hg).cpos
      have n7 : ∀ w', V3.drew.grownBy w' (Value.slice s.fa s.fn s.fc).ownBlock → w'.cell? ⟨sb, 7, none⟩ = some (.bool s.tu) := fun w' hg => (keep _ _ hS3 hg).ctu
      have n8 : ∀ w', V3.drew.grownBy w' (Value.slice s.fa s.fn s.fc).ownBlock → w'.cell? ⟨sb, 8, none⟩ = some (.int .i64 (s.mi : Int)) := fun w' hg => (keep _ _ hS3 hg).cmi
      have Keep := hid keep
      clear keep
      refine wp_region_can 24 [18, 20, 21] [0, 1, 2, 3, 4, 5, 6, 7, 8, 9, 10, 11, 12, 13, 14, 15, 16, 17, 18, 19, 20, 21, 22, 23] (fun u u' => u.grownBy u' (Value.slice s.fa s.fn s.fc).ownBlock) (fun _ => ⟨rfl, rfl, rfl, Nat.le_refl _, fun _ _ _ => rfl⟩) (fun _ _ _ h k => grownBy_trans h k) (by kernel_rfl) (by kernel_rfl) ?_
      simp only [List.map_cons, List.map_nil, List.contains_cons, List.contains_nil, List.getD_cons_zero, List.getD_cons_succ, Nat.reduceBEq, Bool.or_false, Bool.or_true]
      repeat (refine wpL_do rfl (fun w' hw' => (by go_simp; rfl)) ?_; simp only [Act.put, List.setIfInBounds_toArray, List.set_cons_succ, List.set_cons_zero])
      clear n10 n6 n7 n8
      refine wpL_call rfl (fun K hK => ?_)
      go_wp2_with fail
      refine (scr_ok da s.L dc z V3.drew (Rd.ofOwn oD.drew) hdb (by omega)).mono ?_
      rintro e V4 ⟨sa, sc, rfl, oZ, b4⟩
      have b4' : V3.drew.grownBy V4 (Value.slice s.fa s.fn s.fc).ownBlock := grownBy_of_below b4 _
      refine hK _ _ b4' ?_
      clear hK K
      try simp only [Act.put, List.setIfInBounds_toArray, List.set_cons_succ, List.set_cons_zero]
      have b4 : Below V3.heap.size V3 V4 := (Below.refl _ V3).drew.trans b4
      have oZ : V4.ownsRow V3.heap.size 5 1 (.slice sa s.L sc) s.L (vb (Scr z)) := oZ
      have oZ := ownsRow_mono oZ bW.size
      have bW4 := bW.trans (b4.mono bW.size)
      clear b4 b4' bW hS hf3 oD hS3
      repeat (refine wpL_do rfl (fun w' hw' => (by go_simp; rfl)) ?_; simp only [Act.put, List.setIfInBounds_toArray, List.set_cons_succ, List.set_cons_zero])
      refine wpL_call rfl (fun K hK => ?_)
      go_wp2_with fail
      refine hK _ _ (World.grownBy_alloc _ _ _) ?_
      clear hK K
      try simp only [Act.put, List.setIfInBounds_toArray, List.set_cons_succ, List.set_cons_zero]
      have b5 := below_alloc V4 (.cells #[.int .i64 (s.pos : Int), .bool s.tu, .int .i64 (s.mi : Int), .slice sa s.L sc] 35)
      have hnew : ∀ (j : Nat) (x : Value), (Fd.cells ⟨s.pos, s.tu, s.mi, sa, s.L, sc, Scr z⟩)[j]? = some x → (V4.alloc (.cells #[.int .i64 (s.pos : Int), .bool s.tu, .int .i64 (s.mi : Int), .slice sa s.L sc] 35)).cell? ((⟨V4.heap.size, 0, none⟩ : Addr).add j) = some x := new_cells V4 [.int .i64 (s.pos : Int), .bool s.tu, .int .i64 (s.mi : Int), .slice sa s.L sc] 35
      have hV4 : W.heap.size ≤ V4.heap.size := bW4.size
      have bW5 := bW4.trans (b5.mono bW4.size)
      have oZ := ownsRow_below oZ b5
      have hf5 := ownsRow_below hf bW5
      clear b5 bW4
      generalize V4.alloc (.cells #[.int .i64 (s.pos : Int), .bool s.tu, .int .i64 (s.mi : Int), .slice sa s.L sc] 35) = V5 at *
      generalize V4.heap.size = nb at *
      refine wpL_call rfl (fun K hK => ?_)
      refine wp_append_wide_at (.tmp 66) (.tmp 82) 33 rfl B0 35 i0 _ 4 48 Try.underlying33 hi0 hz0 hz1 hz2 rfl (by decide) (.slice s.fa s.fn s.fc) s.fn (fcs F) rfl hf5 ⟨nb, 0, none⟩ 1 1 (Fd.cells ⟨s.pos, s.tu, s.mi, sa, s.L, sc, Scr z⟩) rfl rfl hnew (by simp [Fd.cells, Value.oneCell']) (by unfold maxLen; omega) (by omega) (Nat.le_trans hB0 bW5.size) ?_
      intro v' V6 own6 g6 hat
      refine hK _ _ g6 ?_
      clear hK K
      try simp only [Act.put, List.setIfInBounds_toArray, List.set_cons_succ, List.set_cons_zero]
      obtain ⟨va', vc', rfl, _, _⟩ := own_slice own6
      repeat (refine wpL_do rfl (fun w' hw' => (by go_simp; rfl)) ?_; simp only [Act.put, List.setIfInBounds_toArray, List.set_cons_succ, List.set_cons_zero])
      have hwhere : ∀ k, (Value.slice va' (s.fn + 1) vc').ownBlock = some k → (Value.slice s.fa s.fn s.fc).ownBlock = some k ∨ W.heap.size ≤ k := fun k hk => by
        rcases hat with h1 | h1
        · left; rw [← h1]; exact hk
        · right; rw [h1] at hk; cases hk; exact bW5.size
      have hfd : (Fd.mk s.pos s.tu s.mi sa s.L sc (Scr z)).In V6 W.heap.size := ⟨oZ.kept g6 (own_apart oZ hf5 (by decide)), Scr_b hdb⟩
      rw [← fcs_snoc] at own6
      have HFD2 : Hid (Scr z = frD s.L B s.pos s.tu) := HFD.out.symm
      have hS6 : SyAt V6 sb s := Keep.out V5 V6 (h.at_.below bW5) g6
      have k6 : KeptP (fun k => k = sb ∨ (Value.slice s.fa s.fn s.fc).ownBlock = some k) W V6 := (KeptP.below bW5).trans (KeptP.grown (S := fun k => (Value.slice s.fa s.fn s.fc).ownBlock = some k) g6 (fun r hr => hr)) (fun i _ hi => .inr hi)
      have h5 := h.below bW5
      have hS6 : SyIn V6 sb s B := { h5 with at_ := hS6, own := h5.own.kept g6 (own_apart h5.own hf5 (by decide)) }
      clear h5
      clear g6 bW5 hf5 oZ hnew hat HFD
      have cf := hS6.at_.cf
      have f10 := hS6.at_.frozen 10
      have c6 := hS6.at_.cpos
      have f6 := hS6.at_.frozen 6
      have c9 := hS6.at_.cst
      have f9 := hS6.at_.frozen 9
      obtain ⟨h10, g10⟩ := hS6.put 10 (.slice va' (s.fn + 1) vc') { s with fa := va', fn := s.fn + 1, fc := vc' } rfl ⟨rfl, rfl, rfl, rfl, rfl, rfl, rfl, rfl⟩ hS6.rmi
      obtain ⟨q2, hq2e⟩ : ∃ q2, q2 = s.pos + 32 + 8 * s.L := ⟨_, rfl⟩
      obtain ⟨h6, g6'⟩ := h10.put 6 (.int .i64 (q2 : Int)) { s with fa := va', fn := s.fn + 1, fc := vc', pos := q2 } rfl ⟨rfl, rfl, rfl, rfl, rfl, rfl, rfl, rfl⟩ hS6.rmi
      obtain ⟨h9, g9⟩ := h6.put 9 (.func (.func 29) #[] #[]) { s with fa := va', fn := s.fn + 1, fc := vc', pos := q2, st := 29 } rfl ⟨rfl, rfl, rfl, rfl, rfl, rfl, rfl, rfl⟩ hS6.rmi
      have gall := grownBy_trans g10 (grownBy_trans g6' g9)
      have own7 := own6.kept gall (own_ne own6 (show V6.heap[sb]? = _ from hS6.at_) (by decide))
      have hfd7 : (Fd.mk s.pos s.tu s.mi sa s.L sc (Scr z)).In _ W.heap.size := ⟨hfd.1.kept gall (own_ne hfd.1 (show V6.heap[sb]? = _ from hS6.at_) (by decide)), hfd.2⟩
      have k7 := k6.trans (KeptP.grown (S := fun k => k = sb) gall (fun r hr => by cases hr; rfl)) (fun i _ hi => .inl hi)
      have e1 : (32 : Int) + (k : Int) = ((32 + k : Nat) : Int) := by omega
      have e2 : IntKind.i64.wrap ((32 + k : Nat) : Int) = ((32 + k : Nat) : Int) := IntWalk.i64_in _ (by omega)
      have e3 : (s.pos : Int) + ((32 + k : Nat) : Int) = (q2 : Int) := by rw [hq2e]; have := Hn.out; omega
      have e4 : IntKind.i64.wrap (q2 : Int) = (q2 : Int) := IntWalk.i64_in _ (by rw [hq2e]; have := Hpl.out; omega)
      have Hq2e := hid hq2e
      generalize 32 + k = m32 at *
      clear hq2e g10 g6' g9 gall own6 hfd k6
      refine wpL_nil ?_
      go_wp2_with fail
      refine onlyOn_normal ?_
      go_wp2_with fail
      go_ret
      rw [← Hq2e.out]
      exact ⟨rfl, va', vc', _, rfl, rfl, rfl, HFD2.out, hfd7, h9, own7, hwhere, k7⟩
end Go.Proofs.Ytlbpmepifegeiaa
