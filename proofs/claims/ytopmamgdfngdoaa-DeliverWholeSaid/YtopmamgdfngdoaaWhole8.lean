/- deliver: a taker that may be, its numbers. -/
import Derived.Test.YtopmamgdfngdoaaWhole7
namespace Go.Proofs.Ytopmamgdfngdoaa
set_option linter.unusedVariables false
open Go.RowKit

set_option maxRecDepth 1000000 in
theorem fr142 (y : Nat → Value) : fr 142 y = #[y 0, y 1, y 2, y 3, y 4, y 5, y 6, y 7, y 8, y 9, y 10, y 11, y 12, y 13, y 14, y 15, y 16, y 17, y 18, y 19, y 20, y 21, y 22, y 23, y 24, y 25, y 26, y 27, y 28, y 29, y 30, y 31, y 32, y 33, y 34, y 35, y 36, y 37, y 38, y 39, y 40, y 41, y 42, y 43, y 44, y 45, y 46, y 47, y 48, y 49, y 50, y 51, y 52, y 53, y 54, y 55, y 56, y 57, y 58, y 59, y 60, y 61, y 62, y 63, y 64, y 65, y 66, y 67, y 68, y 69, y 70, y 71, y 72, y 73, y 74, y 75, y 76, y 77, y 78, y 79, y 80, y 81, y 82, y 83, y 84, y 85, y 86, y 87, y 88, y 89, y 90, y 91, y 92, y 93, y 94, y 95, y 96, y 97, y 98, y 99, y 100, y 101, y 102, y 103, y 104, y 105, y 106, y 107, y 108, y 109, y 110, y 111, y 112, y 113, y 114, y 115, y 116, y 117, y 118, y 119, y 120, y 121, y 122, y 123, y 124, y 125, y 126, y 127, y 128, y 129, y 130, y 131, y 132, y 133, y 134, y 135, y 136, y 137, y 138, y 139, y 140, y 141] := rfl
set_option maxRecDepth 1000000 in
set_option maxHeartbeats 4000000 in
theorem tk_4 (D : DP) (hD : DOk D) (t : TS) (X : Nat) (ha : Option Addr) (hn hc : Nat) (fa : Option Addr) (fn fc : Nat) :
    Tri Try.prog 142 (pieceOf Try.f17 [1, 1, 0]) (fun y w => y 1 = .pointer (some ⟨X, 0, none⟩) ∧ w.heap[X]? = some (.cells (tcells D t ha hn hc fa fn fc) 33)) (fun y w y' w' => y' 1 = y 1 ∧ w' = w) := by
  rintro Q y w ⟨s1, hX⟩ hQ
  have HQ := hid hQ
  clear hQ
  dsimp only at HQ
  have hF := hD.P.F
  have hs := hD.s
  obtain ⟨⟨F, m, b, p⟩, fl, s⟩ := D
  dsimp only at hF hs
  clear hD
  obtain ⟨kn, en, hv, st, tm, tr⟩ := t
  have i0 : IntKind.i64.wrap (0 : Int) = 0 := by decide
  cases kn <;> cases en
  all_goals
    have c2 := (cell_of_row w X 2 _ _ _ hX)
    have c3 := (cell_of_row w X 3 _ _ _ hX)
    have c5 := (cell_of_row w X 5 _ _ _ hX)
    have c6 := (cell_of_row w X 6 _ _ _ hX)
    simp only [tcells, if_true, Bool.false_eq_true, if_false, List.getElem?_toArray, List.getElem?_cons_succ, List.getElem?_cons_zero] at c2 c3 c5 c6
    rw [s1] at HQ
    clear hX
    try unfold logS at c2
    try unfold emS at c2
    conv => arg 2; whnf
    rw [fr142]
    simp only [s1]
    clear s1
    go_wp2_with ((go_at_call 9; refine (in_ok _ _ _ _ (by omega) (by omega)).mono ?_; rintro e w' ⟨rfl, hw'⟩; rw [hw']; clear hw' w'))
    exact q_fr (N := 142) HQ.out rfl ⟨rfl, rfl⟩
set_option maxRecDepth 1000000 in
set_option maxHeartbeats 4000000 in
theorem tk_6 (D : DP) (t : TS) (X : Nat) (ha : Option Addr) (hn hc : Nat) (fa : Option Addr) (fn fc : Nat) :
    Tri Try.prog 142 (pieceOf Try.f17 [1, 1, 1, 0]) (fun y w => y 1 = .pointer (some ⟨X, 0, none⟩) ∧ w.heap[X]? = some (.cells (tcells D t ha hn hc fa fn fc) 33)) (fun y w y' w' => y' 1 = y 1 ∧ w' = w) := by
  rintro Q y w ⟨s1, hX⟩ hQ
  have HQ := hid hQ
  clear hQ
  dsimp only at HQ
  obtain ⟨⟨F, m, b, p⟩, fl, s⟩ := D
  obtain ⟨kn, en, hv, st, tm, tr⟩ := t
  have i0 : IntKind.i64.wrap (0 : Int) = 0 := by decide
  cases kn <;> cases en
  all_goals
    have c1 := (cell_of_row w X 1 _ _ _ hX)
    have c2 := (cell_of_row w X 2 _ _ _ hX)
    have c3 := (cell_of_row w X 3 _ _ _ hX)
    have c4 := (cell_of_row w X 4 _ _ _ hX)
    have c5 := (cell_of_row w X 5 _ _ _ hX)
    have c6 := (cell_of_row w X 6 _ _ _ hX)
    simp only [tcells, if_true, Bool.false_eq_true, if_false, List.getElem?_toArray, List.getElem?_cons_succ, List.getElem?_cons_zero] at c1 c2 c3 c4 c5 c6
    rw [s1] at HQ
    clear hX
    try unfold logS at c2
    try unfold emS at c2
    conv => arg 2; whnf
    rw [fr142]
    simp only [s1]
    clear s1
    go_wp2_with fail
    exact q_fr (N := 142) HQ.out rfl ⟨rfl, rfl⟩
end Go.Proofs.Ytopmamgdfngdoaa
/- deliver: a taker that may be. -/
namespace Go.Proofs.Ytopmamgdfngdoaa
set_option linter.unusedVariables false
open Go.RowKit

def hasH (hv : List Sp) (x : Nat) : Bool := hv.any fun s => decide (s.1 ≤ x ∧ x < s.2)
theorem hasH_iff (hv : List Sp) (x : Nat) : hasH hv x = true ↔ inH hv (x + 1) := by
  unfold hasH inH
  rw [List.any_eq_true]
  constructor
  · rintro ⟨s, h1, h2⟩
    have := of_decide_eq_true h2
    exact ⟨s, h1, by omega, by omega⟩
  · rintro ⟨s, h1, h2, h3⟩
    exact ⟨s, h1, decide_eq_true ⟨by omega, by omega⟩⟩
/-- the bytes that a taker has -/
def fileT (fl : List Nat) (hv : List Sp) : List Nat := (List.range (topH hv)).map fun x => if hasH hv x = true then nth fl x else 0
theorem fileT_len (fl : List Nat) (hv : List Sp) : (fileT fl hv).length = topH hv := by unfold fileT; rw [List.length_map, List.length_range]
theorem topH_cons (s : Sp) (x : Sp) (r : List Sp) : topH (s :: x :: r) = topH (x :: r) := by unfold topH; rw [List.getLast?_cons_cons]
theorem Ris.top_ge : ∀ {l : List Sp} {b : Nat}, Ris b l → ∀ s ∈ l, s.2 ≤ topH l
  | [], _, _, s, hs => by cases hs
  | [x], _, _, s, hs => by rw [List.mem_singleton] at hs; subst hs; exact Nat.le_refl _
  | x :: x' :: r, b, h, s, hs => by
    rw [topH_cons]
    have h1 := h.2.2.top_ge
    rcases List.mem_cons.1 hs with rfl | hs
    · have := h1 x' List.mem_cons_self
      have := h.2.2.1
      have := h.2.2.2.1
      omega
    · exact h1 s hs
theorem topH_le {l : List Sp} {F : Nat} (h : ∀ s ∈ l, s.2 ≤ F) : topH l ≤ F := by
  unfold topH
  cases e : l.getLast? with
  | none => exact Nat.zero_le _
  | some s => exact h s (List.mem_of_getLast? e)
theorem Ris.gap : ∀ {l : List Sp} {b k at_ x : Nat} {s : Sp}, Ris b l → l[k]? = some s → (k = 0 → at_ = b) → (∀ k' s', k = k' + 1 → l[k']? = some s' → at_ = s'.2) → at_ ≤ x → x < s.1 → hasH l x = false
  | [], _, _, _, _, _, _, h, _, _, _, _ => by simp at h
  | y :: r, b, 0, at_, x, s, h, h1, h2, _, h3, h4 => by
    obtain rfl : y = s := by simpa using h1
    rw [Bool.eq_false_iff]
    intro hh
    rw [hasH_iff] at hh
    rcases (inH_cons y r (x + 1)).1 hh with k | k
    · omega
    · have := h.2.2.lt k
      have := h.2.1
      omega
  | y :: r, b, k + 1, at_, x, s, h, h1, _, h2, h3, h4 => by
    have h1' : r[k]? = some s := by simpa using h1
    have hy : y.2 ≤ at_ := by
      cases k with
      | zero => have := h2 0 y rfl rfl; omega
      | succ k' =>
        have hlt : k' < r.length := by have := (List.getElem?_eq_some_iff.1 h1').1; omega
        have := h2 (k' + 1) r[k'] rfl (by simp [hlt])
        have h5 := h.2.2.each r[k'] (List.getElem_mem hlt)
        have h6 : y.2 < (r[k']).2 := by
          have : inH r ((r[k']).2) := ⟨_, List.getElem_mem hlt, h5, Nat.le_refl _⟩
          have := h.2.2.lt this
          omega
        omega
    have hgap : hasH r x = false := by
      cases k with
      | zero =>
        rw [Bool.eq_false_iff]
        intro hh
        rw [hasH_iff] at hh
        cases r with
        | nil => simp at h1'
        | cons z r' =>
          obtain rfl : z = s := by simpa using h1'
          rcases (inH_cons z r' (x + 1)).1 hh with k | k
          · omega
          · have := h.2.2.2.2.lt k
            have := h.2.2.2.1
            omega
      | succ k' => exact h.2.2.gap (k := k' + 1) (at_ := at_) h1' (fun e => by omega) (fun j s' e hs' => h2 (j + 1) s' (by omega) (by simpa using hs')) h3 h4
    unfold hasH at hgap ⊢
    rw [List.any_cons, hgap, Bool.or_false]
    exact decide_eq_false (fun e => by omega)
theorem zeros {fl : List Nat} {l : List Sp} {k at_ : Nat} {s : Sp} (h : Ris 0 l) (hk : l[k]? = some s) (h1 : k = 0 → at_ = 0) (h2 : ∀ k' s', k = k' + 1 → l[k']? = some s' → at_ = s'.2) : ∀ b ∈ ((fileT fl l).drop at_).take (s.1 - at_), b = 0 := by
  intro b hb
  obtain ⟨j, hj⟩ := List.getElem?_of_mem hb
  have hjl := (List.getElem?_eq_some_iff.1 hj).1
  rw [List.length_take] at hjl
  rw [List.getElem?_take_of_lt (by omega), List.getElem?_drop] at hj
  unfold fileT at hj
  rw [List.getElem?_map] at hj
  have hl2 : at_ + j < topH l := by
    rw [List.length_drop, fileT_len] at hjl
    omega
  rw [List.getElem?_range hl2] at hj
  have hg := h.gap (at_ := at_) (x := at_ + j) hk h1 h2 (by omega) (by omega)
  simp only [Option.map_some, hg, Option.some.injEq] at hj
  rw [← hj]
  rfl
structure TkM (D : DP) (W : World) (t : TS) (ha : Option Addr) (hn hc : Nat) (fa : Option Addr) (fn fc : Nat) : Prop where
  h : RdS W ha hn hc t.hv
  f : Rd W fa fn fc (vb (fileT D.fl t.hv))
theorem TkM.below {D : DP} {W W' : World} {t : TS} {ha : Option Addr} {hn hc : Nat} {fa : Option Addr} {fn fc : Nat} (h : TkM D W t ha hn hc fa fn fc) (hb : Below W.heap.size W W') : TkM D W' t ha hn hc fa fn fc := ⟨h.h.below hb, h.f.below hb⟩
theorem TkM.fn {D : DP} {W : World} {t : TS} {ha : Option Addr} {hn hc : Nat} {fa : Option Addr} {fn fc : Nat} (h : TkM D W t ha hn hc fa fn fc) : fn = topH t.hv := by
  have := h.f.len
  rw [vb_len, fileT_len] at this
  exact this.symm
def tkI (D : DP) (X : Nat) (w0 : World) (t : TS) (ha : Option Addr) (hn hc : Nat) (y : Nat → Value) (W : World) : Prop :=
  y 1 = .pointer (some ⟨X, 0, none⟩) ∧ ∃ k at_ : Nat, k ≤ hn ∧ y 110 = .slice ha hn hc ∧ y 111 = .int .i64 (hn : Int) ∧ y 112 = .int .i64 (k : Int) ∧ y 7 = .int .i64 (at_ : Int) ∧ (k = 0 → at_ = 0) ∧ (∀ k' s', k = k' + 1 → t.hv[k']? = some s' → at_ = s'.2) ∧ Below w0.heap.size w0 W
set_option maxRecDepth 1000000 in
set_option maxHeartbeats 4000000 in
theorem tk_12 (D : DP) (t : TS) (X : Nat) (ha : Option Addr) (hn hc : Nat) (fa : Option Addr) (fn fc : Nat) (hT : TI D.P t) :
    Tri Try.prog 142 (pieceOf Try.f17 [1, 1, 1, 1, 1, 1, 1, 0]) (fun y w => y 1 = .pointer (some ⟨X, 0, none⟩) ∧ y 7 = .int .i64 0 ∧ w.heap[X]? = some (.cells (tcells D t ha hn hc fa fn fc) 33) ∧ TkM D w t ha hn hc fa fn fc) (fun y w y' w' => y' 1 = .pointer (some ⟨X, 0, none⟩) ∧ Below w.heap.size w w') := by
  rintro Q y w ⟨s1, s7, hX, hM⟩ hQ
  have HQ := hid hQ
  clear hQ
  dsimp only at HQ
  have HX := hid hX
  have HM := hid hM
  have hfn := hM.fn
  have Hfn := hid hfn
  have hmax := Nat.le_trans hM.h.le hM.h.max
  unfold maxLen at hmax
  have c7 : w.cell? ⟨X, 7, none⟩ = some (.slice ha hn hc) := by rw [cell_of_row _ _ _ _ _ _ hX]; rfl
  clear hX hM hfn
  conv => arg 2; whnf
  rw [fr142]
  simp only [s1, s7]
  clear s1 s7
  refine wp_seq_k (fun K0 hK0 => ?_)
  go_wp2_with fail
  refine hK0.out _ _ ?_
  clear c7
  refine wp_block ?_
  refine wp_loop_fr 142 (tkI D X w t ha hn hc) (fun y' _ => hn - (intOf (y' 112)).toNat) ⟨rfl, rfl, ⟨rfl, 0, 0, Nat.zero_le _, rfl, rfl, rfl, rfl, fun _ => rfl, (fun k' s' e => by omega), Below.refl _ _⟩⟩ ?_
  rintro z W ⟨s1, k, at_, hk, s110, s111, s112, s7, hz, hp, hB⟩
  have HB := hid hB
  have HZ := hid hz
  have HP := hid hp
  clear hB hz hp
  rw [fr142]
  simp only [s1, s110, s111, s112, s7]
  clear s1 s110 s111 s112 s7
  by_cases hlt : k < hn
  · have d1 : decide ((k : Int) < (hn : Int)) = true := decide_eq_true (by omega)
    have hkI : (k : Int) < (hn : Int) := by omega
    have hk0 : (0 : Int) ≤ (k : Int) := by omega
    have hkt : ((k : Nat) : Int).toNat = k := rfl
    have HM2 := hid (HM.out.below HB.out)
    obtain ⟨b, off, s, hab, hb, hs, c0, c1⟩ := HM2.out.h.at_ k hlt
    have Hs := hid hs
    have hat : at_ ≤ s.1 := by
      cases k with
      | zero => rw [HZ.out rfl]; exact Nat.zero_le _
      | succ k' =>
        have hl := HM2.out.h.ln
        have hlt' : k' < t.hv.length := by omega
        rw [HP.out k' t.hv[k'] rfl (List.getElem?_eq_getElem hlt')]
        exact Nat.le_of_lt (hT.ris.nxt (List.getElem?_eq_getElem hlt') hs)
    have hs12 := hT.ris.each s (List.mem_of_getElem? hs)
    have htop := hT.ris.top_ge s (List.mem_of_getElem? hs)
    have hzr := zeros (fl := D.fl) hT.ris hs HZ.out HP.out
    obtain ⟨sa, scc, hcut, hsr⟩ := cut_rd HM2.out.f at_ s.1 hat (by rw [Hfn.out]; omega)
    obtain ⟨x, yy⟩ := s
    dsimp only at c0 c1 hat hs12 htop hzr hcut hsr
    have HSr := hid hsr
    have HZr := hid hzr
    rw [hab] at HM2
    have bN := below_alloc W (.cells #[.int .i64 (x : Int), .int .i64 (yy : Int)] 84)
    have A := hid (heap_alloc_new W (.cells #[.int .i64 (x : Int), .int .i64 (yy : Int)] 84))
    have HB2 := hid (HB.out.trans (bN.mono HB.out.size))
    have HX2 := hid (row_below HX.out HB2.out)
    have HSr2 := hid (HSr.out.below bN)
    subst hab
    clear hs hb bN hsr hzr HM2 HSr
    go_upto_block 1 with (fail)
    refine wp_block ?_
    refine wp_seq_k (fun K4 hK4 => ?_)
    go_wp2_with fail
    refine hK4.out _ _ ?_
    clear c0 c1
    obtain ⟨X2, hX2⟩ : ∃ X2, X2 = W.heap.size := ⟨_, rfl⟩
    rw [← hX2] at A ⊢
    clear hX2
    generalize W.alloc (.cells #[.int .i64 (x : Int), .int .i64 (yy : Int)] 84) = V at *
    have e0 : V.cell? ⟨X2, 0, none⟩ = some (.int .i64 (x : Int)) := by rw [cell_of_row _ _ _ _ _ _ A.out]; rfl
    have e1 : V.cell? ⟨X2, 1, none⟩ = some (.int .i64 (yy : Int)) := by rw [cell_of_row _ _ _ _ _ _ A.out]; rfl
    have c8 : V.cell? ⟨X, 8, none⟩ = some (.slice fa fn fc) := by rw [cell_of_row _ _ _ _ _ _ HX2.out]; rfl
    have hno := hid (none38 sa (x - at_) scc _ V HSr2.out HZr.out)
    refine wp_seq_k (fun K5 hK5 => ?_)
    go_wp2_with fail
    refine hno.out.mono ?_
    rintro e w' ⟨rfl, hw'⟩
    rw [hw']
    clear hw' w' hno c8 hcut
    go_wp2_with fail
    refine hK5.out _ _ ?_
    go_wp2_with fail
    refine ⟨rfl, rfl, ⟨rfl, k + 1, yy, by omega, rfl, rfl, ?_, rfl, (fun e => by omega), (fun k' s' e hs' => ?_), HB2.out⟩, ?_⟩
    · show Value.int .i64 _ = Value.int .i64 _
      go_num
    · obtain rfl : k' = k := by omega
      rw [Hs.out] at hs'
      injection hs' with e1
      rw [← e1]
    · show hn - (intOf (Value.int .i64 _)).toNat < _
      simp [intOf]
      omega
  · obtain rfl : k = hn := by omega
    have d1 : decide ((k : Int) < (k : Int)) = false := decide_eq_false (by omega)
    go_wp2_with fail
    exact q_fr (N := 142) HQ.out rfl ⟨rfl, HB.out⟩
end Go.Proofs.Ytopmamgdfngdoaa
/- deliver: a taker that may be: takes. -/
namespace Go.Proofs.Ytopmamgdfngdoaa
set_option linter.unusedVariables false
open Go.RowKit

set_option maxRecDepth 1000000 in
set_option maxHeartbeats 8000000 in
theorem takes_ok' (D : DP) (hD : DOk D) (t : TS) (ha : Option Addr) (hn hc : Nat) (fa : Option Addr) (fn fc : Nat) (w : World) (hT : TI D.P t) (hM : TkM D w t ha hn hc fa fn fc) :
    Calls Try.prog 17 #[.agg (tcells D t ha hn hc fa fn fc)] w fun e w' => e = .returned (.bool true) ∧ Below w.heap.size w w' := by
  have bN := below_alloc w (.cells (tcells D t ha hn hc fa fn fc) 33)
  have HX := hid (heap_alloc_new w (.cells (tcells D t ha hn hc fa fn fc) 33))
  have HM := hid (hM.below bN)
  have HB := hid bN
  have hp1 := hD.P.p
  have hp9 := hD.P.p9
  have HD := hid hD
  have HT := hid hT
  have htm := hT.tm
  have htr := hT.tr
  have hfn := hid hM.fn
  have htop := topH_le hT.top
  have hF := hD.P.F
  have hex := hid (fun W => expect_ok D.P.p W (by omega) (by omega))
  have hkt := hid (fun W => tk_4 D hD t W ha hn hc fa fn fc)
  clear bN hM hD hT
  unfold emS at hex
  obtain ⟨pp, hpp⟩ : ∃ pp, pp = D.P.p := ⟨_, rfl⟩
  have Hpp := hid hpp
  rw [← hpp] at hex hp1 hp9 htm
  clear hpp
  unfold tcells
  obtain ⟨nm, hnm⟩ : ∃ nm, nm = (if t.kn = true then logS else emS) := ⟨_, rfl⟩
  obtain ⟨sz, hsz⟩ : ∃ sz, sz = (if t.kn = true then (D.P.F : Int) else 0) := ⟨_, rfl⟩
  obtain ⟨la, hla⟩ : ∃ la, la = (if t.en = true then (D.P.F : Int) else 0) := ⟨_, rfl⟩
  obtain ⟨su, hsu⟩ : ∃ su, su = (if t.en = true then (D.s : Int) else 0) := ⟨_, rfl⟩
  rw [← hnm, ← hsz, ← hla, ← hsu]
  have e0 : (.cells #[.int .i64 7, .bool t.kn, .string nm, .int .i64 sz, .bool t.en, .int .i64 la, .int .i64 su, .slice ha hn hc, .slice fa fn fc, .int .i64 (t.st : Int), .int .i64 (t.tm : Int), .int .i64 (D.P.p : Int), .int .i64 (t.tr : Int), .int .i64 100] 33 : Obj) = .cells (tcells D t ha hn hc fa fn fc) 33 := by
    unfold tcells
    rw [hnm, hsz, hla, hsu]
  have E0 := hid e0
  clear e0 hnm hsz hla hsu
  go_enter Try.func17, Try.ntmps17
  refine wp_seq_k (fun K0 hK0 => ?_)
  go_wp2_with fail
  refine hK0.out _ _ ?_
  rw [E0.out]
  clear E0
  obtain ⟨X, hX⟩ : ∃ X, X = w.heap.size := ⟨_, rfl⟩
  rw [← hX] at HX ⊢
  have HXw := hid hX
  clear hX
  generalize w.alloc (.cells (tcells D t ha hn hc fa fn fc) 33) = V at *
  -- the numbers
  have c0 : V.cell? ⟨X, 0, none⟩ = some (.int .i64 7) := by rw [cell_of_row _ _ _ _ _ _ HX.out]; rfl
  have c11 : V.cell? ⟨X, 11, none⟩ = some (.int .i64 (pp : Int)) := by rw [cell_of_row _ _ _ _ _ _ HX.out, Hpp.out]; rfl
  have c13 : V.cell? ⟨X, 13, none⟩ = some (.int .i64 100) := by rw [cell_of_row _ _ _ _ _ _ HX.out]; rfl
  refine wp_seq_k (fun K1 hK1 => ?_)
  refine wp_seq_k (fun K2 hK2 => ?_)
  go_wp2_with fail
  refine (hex.out V).mono ?_
  rintro e V1 ⟨rfl, hb⟩
  have hb2 := hb.trans ((below_alloc V1 (.cells #[.int .i64 7, .bool false, .string { data := #[] }, .int .i64 0, .bool false, .int .i64 0, .int .i64 0, .slice none 0 0, .slice none 0 0, .int .i64 0, .int .i64 0, .int .i64 (pp : Int), .int .i64 0, .int .i64 100] 33)).mono hb.size)
  have HX2 := hid (row_below HX.out hb2)
  have HM2 := hid (HM.out.below hb2)
  have HB2 := hid (HB.out.trans (hb2.mono HB.out.size))
  clear hb hb2 hex c0 c11 c13 HX HM HB
  go_wp2_with fail
  refine hK2.out _ _ ?_
  generalize V1.alloc _ = V2 at *
  have c10 : V2.cell? ⟨X, 10, none⟩ = some (.int .i64 (t.tm : Int)) := by rw [cell_of_row _ _ _ _ _ _ HX2.out]; rfl
  have c11 : V2.cell? ⟨X, 11, none⟩ = some (.int .i64 (pp : Int)) := by rw [cell_of_row _ _ _ _ _ _ HX2.out, Hpp.out]; rfl
  have c12 : V2.cell? ⟨X, 12, none⟩ = some (.int .i64 (t.tr : Int)) := by rw [cell_of_row _ _ _ _ _ _ HX2.out]; rfl
  have c13 : V2.cell? ⟨X, 13, none⟩ = some (.int .i64 100) := by rw [cell_of_row _ _ _ _ _ _ HX2.out]; rfl
  have a1 : IntKind.i64.wrap ((pp : Int) - 1) = (pp : Int) - 1 := IntWalk.i64_in _ (by omega)
  go_wp2_with ((go_at_call 9; refine (in_ok _ _ _ _ (by omega) (by omega)).mono ?_; rintro e w' ⟨rfl, hw'⟩; rw [hw']; clear hw' w'))
  refine hK1.out _ _ ?_
  clear c10 c11 c12 c13 a1
  refine wp_seq_k (fun K3 hK3 => ?_)
  refine use_fr (N := 142) rfl ?_
  refine Tri.use (hkt.out X) rfl ⟨rfl, HX2.out⟩ ?_
  rintro y3 w3 ⟨s1, hw3⟩
  rw [hw3]
  clear hw3 w3
  refine hK3.out _ _ ?_
  have u1 : y3 1 = .pointer (some ⟨X, 0, none⟩) := s1
  clear s1
  refine wp_seq_k (fun K4 hK4 => ?_)
  refine Tri.use (tk_6 D t X ha hn hc fa fn fc) rfl ⟨u1, HX2.out⟩ ?_
  rintro y4 w4 ⟨s1, hw4⟩
  rw [hw4]
  clear hw4 w4
  refine hK4.out _ _ ?_
  have u2 := s1.trans u1
  rw [fr142]
  simp only [u2]
  clear s1 u1 u2
  have c7 : V2.cell? ⟨X, 7, none⟩ = some (.slice ha hn hc) := by rw [cell_of_row _ _ _ _ _ _ HX2.out]; rfl
  have hrc := hid (reach_ok ha hn hc t.hv V2 HM2.out.h HT.out.ris (fun s hs => by have := HT.out.top s hs; omega))
  refine wp_seq_k (fun K5 hK5 => ?_)
  go_wp2_with fail
  refine hrc.out.mono ?_
  rintro e V3 ⟨rfl, hb⟩
  have HX3 := hid (row_below HX2.out hb)
  have HM3 := hid (HM2.out.below hb)
  have HB3 := hid (HB2.out.trans (hb.mono HB2.out.size))
  clear hb hrc c7 HX2 HM2 HB2
  rw [← hfn.out]
  go_wp2_with fail
  refine hK5.out _ _ ?_
  have c8 : V3.cell? ⟨X, 8, none⟩ = some (.slice fa fn fc) := by rw [cell_of_row _ _ _ _ _ _ HX3.out]; rfl
  have hfn2 : fn ≤ 65536 := by rw [hfn.out]; omega
  have d1 : ¬ (65536 : Int) < (fn : Int) := by omega
  have d2 : ¬ 65536 < fn := by omega
  refine wp_seq_k (fun K6 hK6 => ?_)
  go_wp2_with fail
  refine hK6.out _ _ ?_
  clear c8 d1 d2
  refine wp_seq_k (fun K7 hK7 => ?_)
  go_wp2_with fail
  refine hK7.out _ _ ?_
  refine wp_seq_k (fun K8 hK8 => ?_)
  refine use_fr (N := 142) rfl ?_
  refine Tri.use (tk_12 D t X ha hn hc fa fn fc HT.out) rfl ⟨rfl, rfl, HX3.out, HM3.out⟩ ?_
  rintro y8 V4 ⟨s1, hb⟩
  refine hK8.out _ _ ?_
  have HX4 := hid (row_below HX3.out hb)
  have HM4 := hid (HM3.out.below hb)
  have HB4 := hid (HB3.out.trans (hb.mono HB3.out.size))
  clear hb HX3 HM3 HB3
  rw [fr142]
  simp only [s1]
  clear s1
  rcases HT.out.st with h0 | h0
  · have c9 : V4.cell? ⟨X, 9, none⟩ = some (.int .i64 0) := by rw [cell_of_row _ _ _ _ _ _ HX4.out, show (0 : Int) = (t.st : Int) by omega]; rfl
    go_wp2_with fail
    go_ret
    exact ⟨rfl, by rw [HXw.out]; exact HB4.out⟩
  · have c9 : V4.cell? ⟨X, 9, none⟩ = some (.int .i64 3) := by rw [cell_of_row _ _ _ _ _ _ HX4.out, show (3 : Int) = (t.st : Int) by omega]; rfl
    obtain ⟨k1, k2, k3⟩ := HT.out.ov h0
    have c1 : V4.cell? ⟨X, 1, none⟩ = some (.bool true) := by rw [cell_of_row _ _ _ _ _ _ HX4.out, ← k1]; rfl
    have c3 : V4.cell? ⟨X, 3, none⟩ = some (.int .i64 (D.P.F : Int)) := by
      rw [cell_of_row _ _ _ _ _ _ HX4.out]
      show some (Value.int .i64 (if t.kn = true then (D.P.F : Int) else 0)) = _
      rw [if_pos k1]
    have c7 : V4.cell? ⟨X, 7, none⟩ = some (.slice ha hn hc) := by rw [cell_of_row _ _ _ _ _ _ HX4.out]; rfl
    have hall := hid (all_ok ha hn hc t.hv D.P.F V4 HM4.out.h)
    rw [k3] at hall
    clear k1 k2 k3
    go_wp2_with fail
    refine hall.out.mono ?_
    rintro e w' ⟨rfl, hw'⟩
    rw [← hw']
    clear hw' w' hall
    go_wp2_with fail
    go_ret
    exact ⟨rfl, by rw [HXw.out]; exact HB4.out⟩
end Go.Proofs.Ytopmamgdfngdoaa
/- deliver: a giver that may be: gives. -/
namespace Go.Proofs.Ytopmamgdfngdoaa
set_option linter.unusedVariables false
open Go.RowKit

structure GvM (D : DP) (W : World) (g : GS) (fa : Option Addr) (fn fc : Nat) (aa : Option Addr) (an ac : Nat) : Prop where
  f : Rd W fa fn fc (vb D.fl)
  a : RdS W aa an ac g.ag
theorem GvM.below {D : DP} {W W' : World} {g : GS} {fa : Option Addr} {fn fc : Nat} {aa : Option Addr} {an ac : Nat} (h : GvM D W g fa fn fc aa an ac) (hb : Below W.heap.size W W') : GvM D W' g fa fn fc aa an ac := ⟨h.f.below hb, h.a.below hb⟩
theorem GvM.fn {D : DP} (hD : DOk D) {W : World} {g : GS} {fa : Option Addr} {fn fc : Nat} {aa : Option Addr} {an ac : Nat} (h : GvM D W g fa fn fc aa an ac) : fn = D.P.F := by
  have := h.f.len
  rw [vb_len, hD.len] at this
  exact this.symm
set_option maxRecDepth 1000000 in
set_option maxHeartbeats 8000000 in
theorem gives_ok (D : DP) (hD : DOk D) (g : GS) (fa : Option Addr) (fn fc : Nat) (aa : Option Addr) (an ac : Nat) (w : World) (hG : GI D.P g) (hM : GvM D w g fa fn fc aa an ac) :
    Calls Try.prog 40 #[.agg (gcells D g fa fn fc aa an ac)] w fun e w' => e = .returned (.bool true) ∧ Below w.heap.size w w' := by
  have bN := below_alloc w (.cells (gcells D g fa fn fc aa an ac) 28)
  have HX := hid (heap_alloc_new w (.cells (gcells D g fa fn fc aa an ac) 28))
  have HM := hid (hM.below bN)
  have HB := hid bN
  have hfn := hM.fn hD
  obtain ⟨q1, q2, q3, q4, q5, q6⟩ := hD.P
  have q7 := hD.m40
  have hlen := hM.a.ln
  obtain ⟨h1, h2, h3, h4, h5, h6, h7, h8⟩ := hG
  have hod : g.st = 0 ∨ (¬ g.st = 0 ∧ g.pos = fn ∧ g.fi = false) := by
    by_cases e : g.st = 0
    · exact .inl e
    · exact .inr ⟨e, by rw [hfn]; exact (h3 e).1, (h3 e).2⟩
  have Hod := hid hod
  have hof := hid (fun W (hr : Rd W fa fn fc (vb D.fl)) => offer_ok D.P.m D.P.b D.P.p fa fn fc D.fl W hr (by omega) (by omega) (by omega) (by omega))
  have H5 := hid h5
  have hpos : g.pos ≤ fn := by omega
  have han : an ≤ 1000 := by omega
  have hfn6 : fn ≤ 65536 := by omega
  have Hfn := hid hfn
  clear bN hM h3 h5 h8 hod hfn hlen
  unfold gcells
  obtain ⟨lS, hlS⟩ : ∃ lS, lS = logS := ⟨_, rfl⟩
  have e0 : (.cells #[.int .i64 7, .string lS, .slice fa fn fc, .int .i64 (D.P.m : Int), .int .i64 (D.P.b : Int), .int .i64 (g.st : Int), .bool g.fi, .int .i64 (g.pos : Int), .slice aa an ac, .int .i64 (g.tm : Int), .int .i64 (D.P.p : Int), .int .i64 (g.tr : Int), .int .i64 100] 28 : Obj) = .cells (gcells D g fa fn fc aa an ac) 28 := by unfold gcells; rw [hlS]
  have E0 := hid e0
  rw [← hlS] at hof ⊢
  have HlS := hid hlS
  clear e0 hlS
  go_enter Try.func40, Try.ntmps40
  refine wp_seq_k (fun K0 hK0 => ?_)
  go_wp2_with fail
  refine hK0.out _ _ ?_
  rw [E0.out]
  clear E0
  obtain ⟨X, hX⟩ : ∃ X, X = w.heap.size := ⟨_, rfl⟩
  rw [← hX] at HX ⊢
  have HXw := hid hX
  clear hX
  generalize w.alloc (.cells (gcells D g fa fn fc aa an ac) 28) = V at *
  -- the length
  have c2 : V.cell? ⟨X, 2, none⟩ = some (.slice fa fn fc) := by rw [cell_of_row _ _ _ _ _ _ HX.out]; rfl
  have bN := below_alloc V (.cells #[.int .i64 (fn : Int)] 3)
  have HY := hid (heap_alloc_new V (.cells #[.int .i64 (fn : Int)] 3))
  have HX1 := hid (row_below HX.out bN)
  have HM1 := hid (HM.out.below bN)
  have HB1 := hid (HB.out.trans (bN.mono HB.out.size))
  clear bN HX HM HB
  refine wp_seq_k (fun K1 hK1 => ?_)
  go_wp2_with fail
  refine hK1.out _ _ ?_
  clear c2
  obtain ⟨Y, hY⟩ : ∃ Y, Y = V.heap.size := ⟨_, rfl⟩
  rw [← hY] at HY ⊢
  clear hY
  generalize V.alloc (.cells #[.int .i64 (fn : Int)] 3) = V1 at *
  -- Offer
  have c0 : V1.cell? ⟨X, 0, none⟩ = some (.int .i64 7) := by rw [cell_of_row _ _ _ _ _ _ HX1.out]; rfl
  have c1 : V1.cell? ⟨X, 1, none⟩ = some (.string lS) := by rw [cell_of_row _ _ _ _ _ _ HX1.out, HlS.out]; rfl
  have c2 : V1.cell? ⟨X, 2, none⟩ = some (.slice fa fn fc) := by rw [cell_of_row _ _ _ _ _ _ HX1.out]; rfl
  have c3 : V1.cell? ⟨X, 3, none⟩ = some (.int .i64 (D.P.m : Int)) := by rw [cell_of_row _ _ _ _ _ _ HX1.out]; rfl
  have c4 : V1.cell? ⟨X, 4, none⟩ = some (.int .i64 (D.P.b : Int)) := by rw [cell_of_row _ _ _ _ _ _ HX1.out]; rfl
  have c10 : V1.cell? ⟨X, 10, none⟩ = some (.int .i64 (D.P.p : Int)) := by rw [cell_of_row _ _ _ _ _ _ HX1.out]; rfl
  have c12 : V1.cell? ⟨X, 12, none⟩ = some (.int .i64 100) := by rw [cell_of_row _ _ _ _ _ _ HX1.out]; rfl
  have hof1 := hid (Hid.out hof V1 HM1.out.f)
  refine wp_seq_k (fun K2 hK2 => ?_)
  refine wp_seq_k (fun K3 hK3 => ?_)
  go_wp2_with fail
  refine hof1.out.mono ?_
  rintro e V2 ⟨⟨fa2, fc2, rfl, _⟩, hb⟩
  have hb2 := hb.trans ((below_alloc V2 (.cells #[.int .i64 7, .string logS, .slice fa2 fn fc2, .int .i64 (D.P.m : Int), .int .i64 (D.P.b : Int), .int .i64 0, .bool true, .int .i64 0, .slice none 0 0, .int .i64 0, .int .i64 (D.P.p : Int), .int .i64 0, .int .i64 100] 28)).mono hb.size)
  have HX2 := hid (row_below HX1.out hb2)
  have HY2 := hid (row_below HY.out hb2)
  have HM2 := hid (HM1.out.below hb2)
  have HB2 := hid (HB1.out.trans (hb2.mono HB1.out.size))
  clear hb hb2 hof hof1 c0 c1 c2 c3 c4 c10 c12 HX1 HY HM1 HB1
  go_wp2_with fail
  refine hK3.out _ _ ?_
  generalize V2.alloc _ = V3 at *
  go_wp2_with fail
  refine hK2.out _ _ ?_
  -- the numbers
  have c5 : V3.cell? ⟨X, 5, none⟩ = some (.int .i64 (g.st : Int)) := by rw [cell_of_row _ _ _ _ _ _ HX2.out]; rfl
  have c6 : V3.cell? ⟨X, 6, none⟩ = some (.bool g.fi) := by rw [cell_of_row _ _ _ _ _ _ HX2.out]; rfl
  have c7 : V3.cell? ⟨X, 7, none⟩ = some (.int .i64 (g.pos : Int)) := by rw [cell_of_row _ _ _ _ _ _ HX2.out]; rfl
  have c8 : V3.cell? ⟨X, 8, none⟩ = some (.slice aa an ac) := by rw [cell_of_row _ _ _ _ _ _ HX2.out]; rfl
  have c9 : V3.cell? ⟨X, 9, none⟩ = some (.int .i64 (g.tm : Int)) := by rw [cell_of_row _ _ _ _ _ _ HX2.out]; rfl
  have c10 : V3.cell? ⟨X, 10, none⟩ = some (.int .i64 (D.P.p : Int)) := by rw [cell_of_row _ _ _ _ _ _ HX2.out]; rfl
  have c11 : V3.cell? ⟨X, 11, none⟩ = some (.int .i64 (g.tr : Int)) := by rw [cell_of_row _ _ _ _ _ _ HX2.out]; rfl
  have c12 : V3.cell? ⟨X, 12, none⟩ = some (.int .i64 100) := by rw [cell_of_row _ _ _ _ _ _ HX2.out]; rfl
  have y0 : V3.cell? ⟨Y, 0, none⟩ = some (.int .i64 (fn : Int)) := by rw [cell_of_row _ _ _ _ _ _ HY2.out]; rfl
  have a1 : IntKind.i64.wrap ((D.P.p : Int) - 1) = (D.P.p : Int) - 1 := IntWalk.i64_in _ (by omega)
  have hno := hid (none59 aa an ac g.ag fn Y V3 HM2.out.a (fun s hs => by rw [Hfn.out]; exact H5.out s hs) hfn6 HY2.out)
  refine wp_seq_k (fun K4 hK4 => ?_)
  rcases Hod.out with h0 | ⟨h0, hp, hf⟩
  · rw [show ((g.st : Nat) : Int) = 0 by omega] at c5
    go_wp2_with ((go_at_call 9; refine (in_ok _ _ _ _ (by omega) (by omega)).mono ?_; rintro e w' ⟨rfl, hw'⟩; rw [hw']; clear hw' w'))
    refine hK4.out _ _ ?_
    refine wp_seq_k (fun K5 hK5 => ?_)
    go_wp2_with fail
    refine hK5.out _ _ ?_
    have d8 : (an : Int) ≤ 1000 := by omega
    go_wp2_with fail
    refine hno.out.mono ?_
    rintro e V4 ⟨rfl, hb⟩
    have HX4 := hid (row_below HX2.out hb)
    have HB4 := hid (HB2.out.trans (hb.mono HB2.out.size))
    clear hb hno c5 c6 c7 c8 c9 c10 c11 c12 y0 HX2 HY2 HM2 HB2
    have c9 : V4.cell? ⟨X, 9, none⟩ = some (.int .i64 (g.tm : Int)) := by rw [cell_of_row _ _ _ _ _ _ HX4.out]; rfl
    have c10 : V4.cell? ⟨X, 10, none⟩ = some (.int .i64 (D.P.p : Int)) := by rw [cell_of_row _ _ _ _ _ _ HX4.out]; rfl
    have c11 : V4.cell? ⟨X, 11, none⟩ = some (.int .i64 (g.tr : Int)) := by rw [cell_of_row _ _ _ _ _ _ HX4.out]; rfl
    have c12 : V4.cell? ⟨X, 12, none⟩ = some (.int .i64 100) := by rw [cell_of_row _ _ _ _ _ _ HX4.out]; rfl
    go_wp2_with ((go_at_call 9; refine (in_ok _ _ _ _ (by omega) (by omega)).mono ?_; rintro e w' ⟨rfl, hw'⟩; rw [hw']; clear hw' w'))
    go_ret
    exact ⟨rfl, by rw [HXw.out]; exact HB4.out⟩
  · have hst : ¬ (g.st : Int) = 0 := by omega
    have hst2 : ¬ g.st = 0 := h0
    rw [hp] at c7
    rw [hf] at c6
    have d7 : ¬ (fn : Int) < (fn : Int) := by omega
    clear hp hf h0
    go_wp2_with ((go_at_call 9; refine (in_ok _ _ _ _ (by omega) (by omega)).mono ?_; rintro e w' ⟨rfl, hw'⟩; rw [hw']; clear hw' w'))
    refine hK4.out _ _ ?_
    refine wp_seq_k (fun K5 hK5 => ?_)
    go_wp2_with fail
    refine hK5.out _ _ ?_
    have d8 : (an : Int) ≤ 1000 := by omega
    go_wp2_with fail
    refine hno.out.mono ?_
    rintro e V4 ⟨rfl, hb⟩
    have HX4 := hid (row_below HX2.out hb)
    have HB4 := hid (HB2.out.trans (hb.mono HB2.out.size))
    clear hb hno c5 c6 c7 c8 c9 c10 c11 c12 y0 HX2 HY2 HM2 HB2
    have c9 : V4.cell? ⟨X, 9, none⟩ = some (.int .i64 (g.tm : Int)) := by rw [cell_of_row _ _ _ _ _ _ HX4.out]; rfl
    have c10 : V4.cell? ⟨X, 10, none⟩ = some (.int .i64 (D.P.p : Int)) := by rw [cell_of_row _ _ _ _ _ _ HX4.out]; rfl
    have c11 : V4.cell? ⟨X, 11, none⟩ = some (.int .i64 (g.tr : Int)) := by rw [cell_of_row _ _ _ _ _ _ HX4.out]; rfl
    have c12 : V4.cell? ⟨X, 12, none⟩ = some (.int .i64 100) := by rw [cell_of_row _ _ _ _ _ _ HX4.out]; rfl
    go_wp2_with ((go_at_call 9; refine (in_ok _ _ _ _ (by omega) (by omega)).mono ?_; rintro e w' ⟨rfl, hw'⟩; rw [hw']; clear hw' w'))
    go_ret
    exact ⟨rfl, by rw [HXw.out]; exact HB4.out⟩
end Go.Proofs.Ytopmamgdfngdoaa
