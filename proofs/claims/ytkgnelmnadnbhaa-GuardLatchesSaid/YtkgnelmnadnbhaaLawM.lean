/- GuardLatches: what lies in memory while the law runs. -/
import Derived.Test.YtkgnelmnadnbhaaPlainG
import Derived.Test.YtkgnelmnadnbhaaOpenInts
import Derived.Test.YtkgnelmnadnbhaaPickG
import Derived.Test.YtkgnelmnadnbhaaFr
namespace Go.Proofs.Ytkgnelmnadnbhaa
set_option linter.unusedVariables false
open Go.RowKit

/-- a Look as it lies -/
structure Lk where
  a : Option Addr
  n : Nat
  c : Nat
  zs : List Int
  heard : Bool
  leave : Bool
structure LkAt (w : World) (aL : Option Addr) (nL cL : Nat) (lk : Nat → Lk) : Prop where
  le : nL ≤ cL
  max : cL ≤ maxLen
  mem : 0 < nL → ∃ b off, aL = some ⟨b, off, none⟩ ∧ b < w.heap.size ∧ ∀ i, i < nL → w.cell? ⟨b, off + i * 3, none⟩ = some (.slice (lk i).a (lk i).n (lk i).c) ∧ w.cell? ⟨b, off + i * 3 + 1, none⟩ = some (.bool (lk i).heard) ∧ w.cell? ⟨b, off + i * 3 + 2, none⟩ = some (.bool (lk i).leave)
  rd : ∀ i, i < nL → Rd w (lk i).a (lk i).n (lk i).c (vz (lk i).zs) ∧ ∀ z ∈ (lk i).zs, I64 z
theorem LkAt.below {w w' : World} {aL : Option Addr} {nL cL : Nat} {lk : Nat → Lk} (h : LkAt w aL nL cL lk) (hb : Below w.heap.size w w') : LkAt w' aL nL cL lk :=
  ⟨h.le, h.max, fun hn => by
    obtain ⟨b, off, h1, h2, h3⟩ := h.mem hn
    refine ⟨b, off, h1, Nat.lt_of_lt_of_le h2 hb.size, fun i hi => ?_⟩
    obtain ⟨k1, k2, k3⟩ := h3 i hi
    exact ⟨(hb.cell (p := ⟨b, off + i * 3, none⟩) h2).trans k1, (hb.cell (p := ⟨b, off + i * 3 + 1, none⟩) h2).trans k2, (hb.cell (p := ⟨b, off + i * 3 + 2, none⟩) h2).trans k3⟩, fun i hi => ⟨(h.rd i hi).1.below hb, (h.rd i hi).2⟩⟩
/-- what the law was given, and its guard -/
structure Cx where
  w0 : World
  aL : Option Addr
  nL : Nat
  cL : Nat
  lk : Nat → Lk
  H : Nat
  gb : Nat
  n : Nat
  cap : Nat
  sil : Nat
  most : Nat
  win : Nat
  nam : ByteArray
  ms : List Mon
structure Cx.Ok (C : Cx) : Prop where
  lk : LkAt C.w0 C.aL C.nL C.cL C.lk
  n300 : C.nL ≤ 300
  len : C.ms.length = C.n
  gm : GoodMons C.ms
  gg : GoodG C.n C.sil C.most C.win C.nam
  bH : C.w0.heap.size ≤ C.H
  bg : C.w0.heap.size ≤ C.gb
  nm : ∀ k, k < C.n → (mAt C.ms k).name ≠ C.nam
  ne : C.nam ≠ ⟨#[]⟩
  ns : C.nam = ⟨#[115, 97, 102, 101]⟩
/-- a vigil's slices -/
structure Vs where
  ba : Option Addr
  bc : Nat
  ta : Option Addr
  tc : Nat
  pa : Option Addr
  pc : Nat
def vRow (n : Nat) (s : St) (v : Vs) : Array Value := #[.bool s.safe, .int .i64 s.why, .slice v.ba n v.bc, .slice v.ta n v.tc, .int .i64 (s.quiet : Int), .slice v.pa s.trips.length v.pc]
/-- a vigil in its box -/
structure VA (W : World) (B n V : Nat) (s : St) (v : Vs) (lv tv : Value) : Prop where
  row : W.heap[V]? = some (.cells (vRow n s v) 33)
  bV : B ≤ V
  b : OwnAt W B 3 (.slice v.ba n v.bc) n (vi s.bad)
  t : OwnAt W B 4 (.slice v.ta n v.tc) n (vt s.trp)
  p : OwnAt W B 3 (.slice v.pa s.trips.length v.pc) s.trips.length (vi s.trips)
  a1 : Apart lv (.slice v.ba n v.bc)
  a2 : Apart lv (.slice v.pa s.trips.length v.pc)
  a3 : Apart tv (.slice v.ba n v.bc)
  a4 : Apart tv (.slice v.pa s.trips.length v.pc)
theorem VA.below {W W' : World} {B n V : Nat} {s : St} {v : Vs} {lv tv : Value} (h : VA W B n V s v lv tv) (hb : Below W.heap.size W W') : VA W' B n V s v lv tv :=
  ⟨row_below h.row hb, h.bV, h.b.below hb, h.t.below hb, h.p.below hb, h.a1, h.a2, h.a3, h.a4⟩
/-- a row of ints of the law's own is turned -/
theorem VA.kept {W W' : World} {B n V m : Nat} {s : St} {v : Vs} {lv tv u : Value} {xs : List Value} (h : VA W B n V s v lv tv) (hu : OwnAt W B 3 u m xs) (g : W.grownBy W' u.ownBlock) (au : Apart u (.slice v.ba n v.bc)) (ap : Apart u (.slice v.pa s.trips.length v.pc)) : VA W' B n V s v lv tv :=
  ⟨(g.block V (row_lt h.row) (fun e => by
      rcases hu.ne h.row (by decide) with h4 | h4
      · rw [h4] at e; cases e
      · exact h4 e.symm)).trans h.row, h.bV,
    h.b.kept g (by
      cases hb : (Value.slice v.ba n v.bc).ownBlock with
      | none => exact .inl rfl
      | some k => exact .inr (fun e => au k e.symm hb)),
    h.t.kept g (h.t.other hu (by decide)),
    h.p.kept g (by
      cases hb : (Value.slice v.pa s.trips.length v.pc).ownBlock with
      | none => exact .inl rfl
      | some k => exact .inr (fun e => ap k e.symm hb)), h.a1, h.a2, h.a3, h.a4⟩
/-- the law's memory -/
structure MI (C : Cx) (W : World) (lv : Value) (long : List Nat) (tv : Value) (trips : List Nat) : Prop where
  blw : Below C.w0.heap.size C.w0 W
  hg : W.heap[C.H]? = some (.cells #[.slice (some ⟨C.gb, 0, none⟩) C.n C.cap, .int .i64 (C.sil : Int), .int .i64 (C.most : Int), .int .i64 (C.win : Int), .string C.nam] 27)
  rm : RdM W C.gb C.n C.cap C.ms
  gr : ∃ cs, W.heap[C.gb]? = some (.cells cs 29)
  lo : OwnAt W C.w0.heap.size 3 lv C.n (vi long)
  tr : OwnAt W C.w0.heap.size 3 tv trips.length (vi trips)
  ap : Apart lv tv
theorem MI.below {C : Cx} {W W' : World} {lv tv : Value} {long trips : List Nat} (h : MI C W lv long tv trips) (hb : Below W.heap.size W W') : MI C W' lv long tv trips :=
  ⟨h.blw.trans (hb.mono h.blw.size), row_below h.hg hb, h.rm.ext hb, h.gr.imp fun cs k => row_below k hb, h.lo.below hb, h.tr.below hb, h.ap⟩
theorem RdM.kept {w w' : World} {g n cap k : Nat} {ms : List Mon} {row : Option Nat} (h : RdM w g n cap ms) (hg : w.grownBy w' row) (hne : row ≠ some g) : RdM w' g n cap ms :=
  ⟨h.len, h.le, h.max, Nat.lt_of_lt_of_le h.lt hg.size, fun j hj => by
    have hb := hg.block g h.lt (fun e => hne e.symm)
    have e : ∀ o, w'.cell? ⟨g, o, none⟩ = w.cell? ⟨g, o, none⟩ := fun o => by
      unfold World.cell?
      simp only
      rw [hb]
    rw [e, e, e, e, e, e]
    exact h.at_ j hj⟩
/-- an element of long is stored to -/
theorem MI.setLong {C : Cx} {W : World} {tv : Value} {lb lo lc : Nat} {long trips : List Nat} (h : MI C W (.slice (some ⟨lb, lo, none⟩) C.n lc) long tv trips) (k x : Nat) (hk : k < C.n) :
    MI C (W.setCell ⟨lb, lo + k, none⟩ (.int .i64 (x : Int))) (.slice (some ⟨lb, lo, none⟩) C.n lc) (long.set k x) tv trips ∧ W.grownBy (W.setCell ⟨lb, lo + k, none⟩ (.int .i64 (x : Int))) (some lb) := by
  obtain ⟨o1, g1⟩ := h.lo.set k hk (.int .i64 (x : Int))
  rw [vi_set] at o1
  obtain ⟨cs, hgr⟩ := h.gr
  have hn : ∀ (b T : Nat) (cs : Array Value), 3 ≠ T → W.heap[b]? = some (.cells cs T) → b ≠ lb := fun b T cs hT hr e => by
    rcases h.lo.ne hr hT with h4 | h4
    · cases h4
    · exact h4 (by rw [e]; rfl)
  refine ⟨⟨h.blw.grown g1 h.blw.size (fun k e => by cases e; exact (h.lo.lt lb rfl).1), row_grown h.hg g1 (hn _ _ _ (by decide) h.hg), h.rm.kept (k := 0) g1 (fun e => hn _ _ _ (by decide) hgr (by cases e; rfl)), ⟨cs, row_grown hgr g1 (hn _ _ _ (by decide) hgr)⟩, o1, ?_, h.ap⟩, g1⟩
  exact h.tr.kept g1 (by
    cases hb : tv.ownBlock with
    | none => exact .inl rfl
    | some k => exact .inr (fun e => h.ap lb rfl (by rw [hb, e])))
/-- the trips grow -/
theorem MI.grow {C : Cx} {W W' : World} {lv tv tv' : Value} {long trips trips' : List Nat} (h : MI C W lv long tv trips) (g : W.grownBy W' tv.ownBlock) (o : OwnAt W' C.w0.heap.size 3 tv' trips'.length (vi trips')) (hb : tv'.ownBlock = tv.ownBlock ∨ ∃ k, tv'.ownBlock = some k ∧ W.heap.size ≤ k) : MI C W' lv long tv' trips' := by
  obtain ⟨cs, hgr⟩ := h.gr
  have hn : ∀ (b T : Nat) (cs : Array Value), 3 ≠ T → W.heap[b]? = some (.cells cs T) → W'.heap[b]? = some (.cells cs T) := fun b T cs hT hr => (g.block b (row_lt hr) (fun e => by
    rcases h.tr.ne hr hT with h4 | h4
    · rw [h4] at e; cases e
    · exact h4 e.symm)).trans hr
  refine ⟨h.blw.grown g h.blw.size (fun k e => (h.tr.lt k e).1), hn _ _ _ (by decide) h.hg, h.rm.kept (k := 0) g (fun e => ?_), ⟨cs, hn _ _ _ (by decide) hgr⟩, h.lo.kept g h.ap.row, o, ?_⟩
  · rcases h.tr.ne hgr (by decide) with h4 | h4
    · rw [h4] at e; cases e
    · exact h4 e
  · rcases hb with hb | ⟨k, hb, hk⟩
    · exact fun k h1 h2 => h.ap k h1 (by rw [← hb]; exact h2)
    · intro j h1 h2
      rw [hb] at h2
      cases h2
      have := (h.lo.lt _ h1).2
      omega
theorem VA.tv {W : World} {B n V : Nat} {s : St} {v : Vs} {lv tv tv' : Value} {N : Nat} (h : VA W B n V s v lv tv) (hb : tv'.ownBlock = tv.ownBlock ∨ ∃ k, tv'.ownBlock = some k ∧ N ≤ k) (hN : W.heap.size ≤ N) : VA W B n V s v lv tv' := by
  refine ⟨h.row, h.bV, h.b, h.t, h.p, h.a1, h.a2, ?_, ?_⟩
  · rcases hb with hb | ⟨k, hb, hk⟩
    · exact fun k h1 h2 => h.a3 k (by rw [← hb]; exact h1) h2
    · intro j h1 h2
      rw [hb] at h1
      cases h1
      have := (h.b.lt _ h2).2
      omega
  · rcases hb with hb | ⟨k, hb, hk⟩
    · exact fun k h1 h2 => h.a4 k (by rw [← hb]; exact h1) h2
    · intro j h1 h2
      rw [hb] at h1
      cases h1
      have := (h.p.lt _ h2).2
      omega
/-- the slots that the law keeps -/
structure SL (C : Cx) (y : Nat → Value) (V : Nat) (lv tv : Value) (quiet i : Nat) : Prop where
  s4 : y 4 = .slice C.aL C.nL C.cL
  s11 : y 11 = .pointer (some ⟨C.H, 0, none⟩)
  s13 : y 13 = .pointer (some ⟨V, 0, none⟩)
  s15 : y 15 = .int .i64 (C.n : Int)
  s16 : y 16 = lv
  s17 : y 17 = .int .i64 (quiet : Int)
  s18 : y 18 = tv
  s19 : y 19 = .int .i64 (i : Int)
/-- what the variables are in a tick -/
def valAt (zs : List Int) (k : Nat) : Int := if k < zs.length ∧ k < 3 then (pk (zs.getD k 0) 20 : Int) - 5 else 5
def valsOf (zs : List Int) : List Int := [valAt zs 0, valAt zs 1, valAt zs 2]
theorem valAt_bd (zs : List Int) (k : Nat) : -5 ≤ valAt zs k ∧ valAt zs k ≤ 14 := by
  unfold valAt
  split
  · have := pk_lt (zs.getD k 0) 20 (by decide); omega
  · omega
set_option maxRecDepth 1000000 in
theorem fr332 (y : Nat → Value) : fr 332 y = #[y 0, y 1, y 2, y 3, y 4, y 5, y 6, y 7, y 8, y 9, y 10, y 11, y 12, y 13, y 14, y 15, y 16, y 17, y 18, y 19, y 20, y 21, y 22, y 23, y 24, y 25, y 26, y 27, y 28, y 29, y 30, y 31, y 32, y 33, y 34, y 35, y 36, y 37, y 38, y 39, y 40, y 41, y 42, y 43, y 44, y 45, y 46, y 47, y 48, y 49, y 50, y 51, y 52, y 53, y 54, y 55, y 56, y 57, y 58, y 59, y 60, y 61, y 62, y 63, y 64, y 65, y 66, y 67, y 68, y 69, y 70, y 71, y 72, y 73, y 74, y 75, y 76, y 77, y 78, y 79, y 80, y 81, y 82, y 83, y 84, y 85, y 86, y 87, y 88, y 89, y 90, y 91, y 92, y 93, y 94, y 95, y 96, y 97, y 98, y 99, y 100, y 101, y 102, y 103, y 104, y 105, y 106, y 107, y 108, y 109, y 110, y 111, y 112, y 113, y 114, y 115, y 116, y 117, y 118, y 119, y 120, y 121, y 122, y 123, y 124, y 125, y 126, y 127, y 128, y 129, y 130, y 131, y 132, y 133, y 134, y 135, y 136, y 137, y 138, y 139, y 140, y 141, y 142, y 143, y 144, y 145, y 146, y 147, y 148, y 149, y 150, y 151, y 152, y 153, y 154, y 155, y 156, y 157, y 158, y 159, y 160, y 161, y 162, y 163, y 164, y 165, y 166, y 167, y 168, y 169, y 170, y 171, y 172, y 173, y 174, y 175, y 176, y 177, y 178, y 179, y 180, y 181, y 182, y 183, y 184, y 185, y 186, y 187, y 188, y 189, y 190, y 191, y 192, y 193, y 194, y 195, y 196, y 197, y 198, y 199, y 200, y 201, y 202, y 203, y 204, y 205, y 206, y 207, y 208, y 209, y 210, y 211, y 212, y 213, y 214, y 215, y 216, y 217, y 218, y 219, y 220, y 221, y 222, y 223, y 224, y 225, y 226, y 227, y 228, y 229, y 230, y 231, y 232, y 233, y 234, y 235, y 236, y 237, y 238, y 239, y 240, y 241, y 242, y 243, y 244, y 245, y 246, y 247, y 248, y 249, y 250, y 251, y 252, y 253, y 254, y 255, y 256, y 257, y 258, y 259, y 260, y 261, y 262, y 263, y 264, y 265, y 266, y 267, y 268, y 269, y 270, y 271, y 272, y 273, y 274, y 275, y 276, y 277, y 278, y 279, y 280, y 281, y 282, y 283, y 284, y 285, y 286, y 287, y 288, y 289, y 290, y 291, y 292, y 293, y 294, y 295, y 296, y 297, y 298, y 299, y 300, y 301, y 302, y 303, y 304, y 305, y 306, y 307, y 308, y 309, y 310, y 311, y 312, y 313, y 314, y 315, y 316, y 317, y 318, y 319, y 320, y 321, y 322, y 323, y 324, y 325, y 326, y 327, y 328, y 329, y 330, y 331] := rfl
end Go.Proofs.Ytkgnelmnadnbhaa
