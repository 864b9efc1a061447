/- FrameCarries, plain: what the law looks at in the end. -/
import Derived.Test.YtjiipmalahhcpaaCarries26
import Derived.Test.YtjiipmalahhcpaaCarries18
namespace Go.Proofs.Ytjiipmalahhcpaa
set_option linter.unusedVariables false
open Go.RowKit

theorem chP_take (c : Nat) (l : List (Nat × PK)) (k : Nat) (h : k < l.length) : chP c (l.take (k + 1)) = chP c (l.take k) ++ (if l[k].1 = c then [l[k].2] else []) := by
  rw [List.take_succ_eq_append_getElem h, chP_append]
  congr 1
  exact chP_one l[k].1 c l[k].2
theorem chE_one (c : Nat) (e : EN) : chE c [e] = if e.ch = c then [e.pk] else [] := by
  unfold chE
  by_cases h : e.ch = c
  · rw [if_pos h, List.filter_cons, if_pos (by simpa using h)]; rfl
  · rw [if_neg h, List.filter_cons, if_neg (by simpa using h)]; rfl
theorem chE_take (c : Nat) (l : List EN) (k : Nat) (h : k < l.length) : chE c (l.take (k + 1)) = chE c (l.take k) ++ (if l[k].ch = c then [l[k].pk] else []) := by
  rw [List.take_succ_eq_append_getElem h, chE_append, chE_one]
structure AtI (s : ST) (i : Nat) (at_ : Nat → Nat) : Prop where
  eq : ∀ c, c < 7 → chP c (s.put.take (at_ c)) = chE c (s.E.take i)
  le : ∀ c, c < 7 → at_ c ≤ s.put.length
theorem at_zero (s : ST) : AtI s 0 (fun _ => 0) := ⟨fun c hc => rfl, fun c hc => Nat.zero_le _⟩
theorem at_find {room jn i0 : Nat} {s : ST} (h : CI room jn i0 s) {i k c : Nat} (hi : i < s.E.length) (hc : s.E[i].ch = c) (hc7 : c < 7) (hk : chP c (s.put.take k) = chE c (s.E.take i)) (hkl : k ≤ s.put.length) (hstop : ∀ hk : k < s.put.length, s.put[k].1 = c) :
    ∃ hk : k < s.put.length, s.put[k] = (c, s.E[i].pk) := by
  have h1 : chP c s.put = chP c (s.put.take k) ++ chP c (s.put.drop k) := by rw [← chP_append, List.take_append_drop]
  have h2 : chE c s.E = chE c (s.E.take i) ++ chE c (s.E.drop i) := by rw [← chE_append, List.take_append_drop]
  rw [h.i2 c hc7, h2, hk, List.append_assoc] at h1
  have h3 := List.append_cancel_left h1
  rw [List.drop_eq_getElem_cons hi] at h3
  have h4 : chE c (s.E[i] :: s.E.drop (i + 1)) = s.E[i].pk :: chE c (s.E.drop (i + 1)) := by
    have := chE_append c [s.E[i]] (s.E.drop (i + 1))
    rw [chE_one, if_pos hc] at this
    exact this
  rw [h4] at h3
  by_cases hlt : k < s.put.length
  · refine ⟨hlt, ?_⟩
    rw [List.drop_eq_getElem_cons hlt] at h3
    have h5 : chP c (s.put[k] :: s.put.drop (k + 1)) = s.put[k].2 :: chP c (s.put.drop (k + 1)) := by
      have := chP_append c [s.put[k]] (s.put.drop (k + 1))
      have h6 := chP_one s.put[k].1 c s.put[k].2
      rw [if_pos (hstop hlt)] at h6
      rw [show [s.put[k]] = [(s.put[k].1, s.put[k].2)] from rfl, h6] at this
      exact this
    rw [h5] at h3
    exact Prod.ext (hstop hlt) (List.cons.inj h3).1.symm
  · have hd : s.put.drop k = [] := List.drop_of_length_le (by omega)
    rw [hd] at h3
    exact absurd h3 (List.cons_ne_nil _ _)
theorem at_next {s : ST} {i : Nat} {at_ : Nat → Nat} (h : AtI s i at_) {k c : Nat} (hi : i < s.E.length) (hc : s.E[i].ch = c) (hkl : k < s.put.length) (hk : chP c (s.put.take k) = chE c (s.E.take i)) (hp : s.put[k] = (c, s.E[i].pk)) :
    AtI s (i + 1) (fun x => if x = c then k + 1 else at_ x) := by
  refine ⟨fun x hx => ?_, fun x hx => ?_⟩
  · rw [chE_take _ _ _ hi]
    by_cases ex : x = c
    · subst ex
      rw [if_pos rfl, chP_take _ _ _ hkl, hk, hp, if_pos rfl, if_pos hc]
    · rw [if_neg ex, if_neg (fun h => ex (by rw [← h, hc])), List.append_nil]
      exact h.eq x hx
  · show (if x = c then k + 1 else at_ x) ≤ _
    split
    · omega
    · exact h.le x hx
theorem at_skip {s : ST} {k c i : Nat} (hkl : k < s.put.length) (hk : chP c (s.put.take k) = chE c (s.E.take i)) (hn : s.put[k].1 ≠ c) : chP c (s.put.take (k + 1)) = chE c (s.E.take i) := by
  rw [chP_take _ _ _ hkl, if_neg hn, List.append_nil, hk]
theorem len_by (l : List (Nat × PK)) (h : ∀ x ∈ l, x.1 < 7) : l.length = (chP 0 l).length + (chP 1 l).length + (chP 2 l).length + (chP 3 l).length + (chP 4 l).length + (chP 5 l).length + (chP 6 l).length := by
  induction l with
  | nil => rfl
  | cons a l ih =>
    have hh := fun c => chP_append c [a] l
    simp only [List.singleton_append] at hh
    have h1 := fun c => chP_one a.1 c a.2
    simp only [hh, h1, List.length_append, List.length_cons]
    rw [ih (fun x hx => h x (List.mem_cons_of_mem _ hx))]
    have := h a List.mem_cons_self
    have h3 : a.1 = 0 ∨ a.1 = 1 ∨ a.1 = 2 ∨ a.1 = 3 ∨ a.1 = 4 ∨ a.1 = 5 ∨ a.1 = 6 := by omega
    rcases h3 with e | e | e | e | e | e | e <;> rw [e] <;> simp <;> omega
theorem chE_len (c : Nat) (l : List EN) : (chE c l).length = (chP c (l.map fun e => (e.ch, e.pk))).length := by
  unfold chE chP
  rw [List.filter_map, List.length_map, List.length_map, List.length_map]
  rfl
theorem quiet_len {room jn i : Nat} {s : ST} (h : CI room jn i s) (hq : ∀ c, c < 7 → (s.l c).ps = []) : s.E.length = s.put.length := by
  have h1 : ∀ c, c < 7 → (chP c s.put).length = (chE c s.E).length := fun c hc => by
    rw [h.i2 c hc]
    have h2 := (h.ci c hc).qp
    rw [hq c hc] at h2
    rw [List.map_eq_nil_iff.1 h2.symm]
    show (chE c s.E ++ []).length = _
    rw [List.append_nil]
  rw [len_by s.put (fun x hx => (h.pc x hx).1)]
  have h3 := len_by (s.E.map fun e => (e.ch, e.pk)) (fun x hx => by
    obtain ⟨e, he, rfl⟩ := List.mem_map.1 hx
    exact (h.ec e he).ch)
  rw [List.length_map] at h3
  rw [h3]
  simp only [← chE_len]
  rw [h1 0 (by omega), h1 1 (by omega), h1 2 (by omega), h1 3 (by omega), h1 4 (by omega), h1 5 (by omega), h1 6 (by omega)]
theorem sub_len {room jn i : Nat} {s : ST} (h : CI room jn i s) : s.E.length ≤ s.put.length := by
  have h1 : ∀ c, c < 7 → (chE c s.E).length ≤ (chP c s.put).length := fun c hc => by
    rw [h.i2 c hc, List.length_append]
    omega
  rw [len_by s.put (fun x hx => (h.pc x hx).1)]
  have h3 := len_by (s.E.map fun e => (e.ch, e.pk)) (fun x hx => by
    obtain ⟨e, he, rfl⟩ := List.mem_map.1 hx
    exact (h.ec e he).ch)
  rw [List.length_map] at h3
  rw [h3]
  simp only [← chE_len]
  have := h1 0 (by omega)
  have := h1 1 (by omega)
  have := h1 2 (by omega)
  have := h1 3 (by omega)
  have := h1 4 (by omega)
  have := h1 5 (by omega)
  have := h1 6 (by omega)
  omega
theorem e_put {room jn i : Nat} {s : ST} (h : CI room jn i s) {e : EN} (he : e ∈ s.E) : (e.ch, e.pk) ∈ s.put := by
  have h7 := (h.ec e he).ch
  have h1 : e.pk ∈ chE e.ch s.E := List.mem_map.2 ⟨e, List.mem_filter.2 ⟨he, beq_self_eq_true _⟩, rfl⟩
  have h2 : e.pk ∈ chP e.ch s.put := by rw [h.i2 e.ch h7]; exact List.mem_append_left _ h1
  obtain ⟨x, hx, hx2⟩ := List.mem_map.1 h2
  obtain ⟨h3, h4⟩ := List.mem_filter.1 hx
  have h5 : x.1 = e.ch := by simpa using h4
  rw [← hx2, ← h5]
  exact h3
theorem put_inj {l : List (Nat × PK)} (h : l.Pairwise (fun a b => a.2.ct < b.2.ct)) {a b : Nat × PK} (ha : a ∈ l) (hb : b ∈ l) (hc : a.2.ct = b.2.ct) : a = b := by
  obtain ⟨i, hi, rfl⟩ := List.mem_iff_getElem.1 ha
  obtain ⟨j, hj, rfl⟩ := List.mem_iff_getElem.1 hb
  have hp := List.pairwise_iff_getElem.1 h
  rcases Nat.lt_trichotomy i j with h1 | h1 | h1
  · have := hp i j hi hj h1; omega
  · subst h1; rfl
  · have := hp j i hj hi h1; omega
theorem e_nodup {room jn i : Nat} {s : ST} (h : CI room jn i s) : s.E.Pairwise (fun a b => a.pk.ct ≠ b.pk.ct) := by
  rw [List.pairwise_iff_forall_sublist]
  intro a b hs hc
  have ha : a ∈ s.E := hs.subset List.mem_cons_self
  have hb : b ∈ s.E := hs.subset (List.mem_cons_of_mem _ List.mem_cons_self)
  have heq := put_inj h.pn (e_put h ha) (e_put h hb) hc
  have hch : a.ch = b.ch := congrArg Prod.fst heq
  have h7 := (h.ec a ha).ch
  have h1 := (hs.filter (fun x => x.ch == a.ch)).map (fun e => e.pk)
  rw [List.filter_eq_self.2 (fun x hx => by
    simp only [List.mem_cons, List.not_mem_nil, or_false] at hx
    rcases hx with rfl | rfl
    · exact beq_self_eq_true _
    · rw [← hch]; exact beq_self_eq_true _)] at h1
  have h2 : [a.pk, b.pk].Sublist (chP a.ch s.put) := by
    rw [h.i2 a.ch h7]
    exact h1.trans (List.sublist_append_left _ _)
  have h3 : (chP a.ch s.put).Pairwise (fun a b => a.ct < b.ct) := by
    unfold chP
    rw [List.pairwise_map]
    exact h.pn.sublist List.filter_sublist
  have h4 := h3.sublist h2
  rw [List.pairwise_cons] at h4
  have := h4.1 b.pk List.mem_cons_self
  omega
/-- how many of the first i were told by the other listener, too -/
def cnt (E : List EN) (i : Nat) : Nat := ((E.take i).filter (·.fl)).length
def flg (E : List EN) : List EN := E.filter (·.fl)
theorem cnt_zero (E : List EN) : cnt E 0 = 0 := rfl
theorem cnt_all (E : List EN) : cnt E E.length = (flg E).length := by unfold cnt flg; rw [List.take_length]
theorem cnt_succ (E : List EN) (i : Nat) (h : i < E.length) : cnt E (i + 1) = cnt E i + (if E[i].fl = true then 1 else 0) := by
  unfold cnt
  rw [List.take_succ_eq_append_getElem h, List.filter_append, List.length_append, List.filter_cons, List.filter_nil]
  split <;> rfl
theorem flg_split (E : List EN) (i : Nat) (h : i < E.length) : flg E = (E.take i).filter (·.fl) ++ ((if E[i].fl = true then [E[i]] else []) ++ (E.drop (i + 1)).filter (·.fl)) := by
  have h1 : E = E.take i ++ (E[i] :: E.drop (i + 1)) := by rw [← List.drop_eq_getElem_cons h, List.take_append_drop]
  unfold flg
  conv => lhs; rw [h1]
  rw [List.filter_append, List.filter_cons]
  split <;> rfl
theorem cnt_le (E : List EN) (i : Nat) : cnt E i ≤ (flg E).length := by
  unfold cnt flg
  exact ((List.take_sublist i E).filter _).length_le
/-- it stands at its place in the other's list just if it was told there -/
theorem there_yes (E : List EN) (i : Nat) (h : i < E.length) (hf : E[i].fl = true) : ∃ hk : cnt E i < (flg E).length, (flg E)[cnt E i] = E[i] := by
  have h1 := flg_split E i h
  rw [if_pos hf] at h1
  have h2 : cnt E i < (flg E).length := by
    rw [h1]
    unfold cnt
    simp only [List.length_append, List.length_singleton]
    omega
  refine ⟨h2, ?_⟩
  have h3 : (flg E)[cnt E i]? = some E[i] := by
    rw [h1, List.getElem?_append_right (by unfold cnt; exact Nat.le_refl _)]
    unfold cnt
    rw [Nat.sub_self]
    rfl
  rw [List.getElem?_eq_getElem h2] at h3
  exact Option.some.inj h3
theorem there_no {room jn i0 : Nat} {s : ST} (h0 : CI room jn i0 s) (i : Nat) (h : i < s.E.length) (hf : s.E[i].fl = false) (hk : cnt s.E i < (flg s.E).length) : (flg s.E)[cnt s.E i].pk.ct ≠ s.E[i].pk.ct := by
  have h1 := flg_split s.E i h
  rw [if_neg (by rw [hf]; decide), List.nil_append] at h1
  have h3 : (flg s.E)[cnt s.E i] ∈ s.E.drop (i + 1) := by
    have h4 : (flg s.E)[cnt s.E i]? = ((s.E.drop (i + 1)).filter (·.fl))[0]? := by
      conv => lhs; rw [h1]
      rw [List.getElem?_append_right (by unfold cnt; exact Nat.le_refl _)]
      unfold cnt
      rw [Nat.sub_self]
    rw [List.getElem?_eq_getElem hk] at h4
    exact (List.mem_filter.1 (List.mem_of_getElem? h4.symm)).1
  obtain ⟨j, hj, hje⟩ := List.mem_iff_getElem.1 h3
  rw [List.length_drop] at hj
  rw [List.getElem_drop] at hje
  have := List.pairwise_iff_getElem.1 (e_nodup h0) i (i + 1 + j) h (by omega) (by omega)
  rw [← hje]
  exact fun e => this e.symm
end Go.Proofs.Ytjiipmalahhcpaa
/- FrameCarries: what the law has in memory. -/
namespace Go.Proofs.Ytjiipmalahhcpaa
set_option linter.unusedVariables false
open Go.RowKit

theorem own_kept2 {W W' : World} {B T sz n : Nat} {v : Value} {xs : List Value} {row : Option Nat} (h : W.ownsRow B T sz v n xs) (hg : W.grownBy W' row) (hne : ∀ b cs, W.heap[b]? = some (.cells cs T) → row ≠ some b) : W'.ownsRow B T sz v n xs := by
  refine h.kept hg ?_
  rcases h.2 with ⟨h0, _⟩ | ⟨g1, c1, cu, h0, _, h3, _⟩
  · exact .inl (by rw [h0]; rfl)
  · subst h0
    exact .inr (fun e => hne _ _ h3 e.symm)
/-- a row of structs that hold packets -/
structure RL (W : World) (B T sz : Nat) {α : Type} (f : α → List Value) (pb : α → PB) (L : List α) (a : Option Addr) (c : Nat) : Prop where
  ow : W.ownsRow B T sz (.slice a L.length c) L.length (L.flatMap f)
  rd : ∀ x ∈ L, RdT 5 W (pb x).1.1 (pb x).1.2.1 (pb x).1.2.2 (vb (pb x).2.ds)
  ln : ∀ x ∈ L, (pb x).1.2.1 = (pb x).2.ds.length
section
variable {W W' : World} {B T sz : Nat} {α : Type} {f : α → List Value} {pb : α → PB} {L : List α} {a : Option Addr} {c : Nat}
theorem RL.below (h : RL W B T sz f pb L a c) (hb : Below W.heap.size W W') : RL W' B T sz f pb L a c :=
  ⟨ownsRow_below h.ow hb, fun x hx => (h.rd x hx).below hb, h.ln⟩
theorem RL.kept {row : Option Nat} (h : RL W B T sz f pb L a c) (hg : W.grownBy W' row) (h1 : ∀ b cs, W.heap[b]? = some (.cells cs T) → row ≠ some b) (h2 : ∀ b cs, W.heap[b]? = some (.cells cs 5) → row ≠ some b) : RL W' B T sz f pb L a c :=
  ⟨own_kept2 h.ow hg h1, fun x hx => (h.rd x hx).kept hg h2, h.ln⟩
theorem RL.nil (W : World) (B T sz : Nat) (f : α → List Value) (pb : α → PB) : RL W B T sz f pb [] none 0 := ⟨World.ownsRow_nil _ _ _ _, fun x hx => (by cases hx), fun x hx => (by cases hx)⟩
theorem RL.snoc (h : RL W B T sz f pb L a c) {x : α} {va : Option Addr} {vc : Nat} (ho : W'.ownsRow B T sz (.slice va (L.length + 1) vc) (L.length + 1) (L.flatMap f ++ f x)) (hg : W.grownBy W' (Value.slice a L.length c).ownBlock)
    (hx : RdT 5 W (pb x).1.1 (pb x).1.2.1 (pb x).1.2.2 (vb (pb x).2.ds)) (hl : (pb x).1.2.1 = (pb x).2.ds.length) (h5 : ∀ b cs, W.heap[b]? = some (.cells cs 5) → (Value.slice a L.length c).ownBlock ≠ some b) : RL W' B T sz f pb (L ++ [x]) va vc := by
  refine ⟨?_, fun y hy => ?_, fun y hy => ?_⟩
  · rw [List.length_append, List.flatMap_append]
    simpa using ho
  · rcases List.mem_append.1 hy with h1 | h1
    · exact (h.rd y h1).kept hg h5
    · rw [List.mem_singleton] at h1; subst h1; exact hx.kept hg h5
  · rcases List.mem_append.1 hy with h1 | h1
    · exact h.ln y h1
    · rw [List.mem_singleton] at h1; subst h1; exact hl
end
/-- an own row's block is of the row's type -/
theorem own_type {W : World} {B T sz n : Nat} {v : Value} {xs : List Value} (h : W.ownsRow B T sz v n xs) {T' : TypeId} (hT : T ≠ T') : ∀ b cs, W.heap[b]? = some (.cells cs T') → v.ownBlock ≠ some b := fun b cs hb e => by
  rcases own_ne h hb hT with h1 | h1
  · rw [h1] at e; cases e
  · exact h1 e
theorem row_type {W : World} {k T : Nat} {cs : Array Value} (h : W.heap[k]? = some (.cells cs T)) {T' : TypeId} (hT : T ≠ T') : ∀ b cs', W.heap[b]? = some (.cells cs' T') → some k ≠ some b := fun b cs' hb e => by
  cases e
  exact ne_tt h hb hT rfl
abbrev HB := Nat × PB
abbrev TB := Nat × Nat × PB
def hcl2 (x : HB) : List Value := hcl x.1 x.2
def tcl (t : TB) : List Value := [.int .i64 (t.1 : Int), .int .i64 (t.2.1 : Int), .bool t.2.2.2.up, .bool t.2.2.2.se, .int .i64 (t.2.2.2.ap : Int), .int .i64 (t.2.2.2.pt : Int), .int .i64 (t.2.2.2.ct : Int), .slice t.2.2.1.1 t.2.2.1.2.1 t.2.2.1.2.2]
theorem tcl_len (t : TB) : (tcl t).length = 8 := rfl
theorem tcl_one (t : TB) : ∀ u ∈ tcl t, u.oneCell' = true := by
  intro u hu
  simp only [tcl, List.mem_cons, List.not_mem_nil, or_false] at hu
  rcases hu with rfl | rfl | rfl | rfl | rfl | rfl | rfl | rfl <;> rfl
theorem hcl2_len (x : HB) : (hcl2 x).length = 7 := rfl
theorem Try.info63 : (Try.prog.info? 63).map (fun i => (i.zero, i.size, i.bytes)) = some (some (.agg #[.int .i64 0, .int .i64 0, .bool false, .bool false, .int .i64 0, .int .i64 0, .int .i64 0, .slice none 0 0]), 8, 72) := by kernel_rfl
theorem Try.underlying56 : Try.prog.underlying 56 = some (.slice 63) := by kernel_rfl
theorem Try.info4 : (Try.prog.info? 4).map (fun i => (i.zero, i.size, i.bytes)) = some (some (.bool false), 1, 1) := by kernel_rfl
theorem Try.underlying57 : Try.prog.underlying 57 = some (.slice 4) := by kernel_rfl
structure MA where
  qb : Nat
  qc : Nat
  eb : Nat
  ec : Nat
  fb : Nat
  fc : Nat
  pa : Option Addr
  pc : Nat
  aa : Option Addr
  ac : Nat
  ba : Option Addr
  bc : Nat
  ca : Option Addr
  cc : Nat
  ga : Option Addr
  gc : Nat
  P : List HB
  A : List TB
  B : List TB
def vin (l : List Nat) : List Value := l.map fun (c : Nat) => .int .i64 (c : Int)
def vbo (l : List Bool) : List Value := l.map Value.bool
structure CM (W : World) (B0 S X Y n : Nat) (s : ST) (m : MA) : Prop where
  sx : W.heap[S]? = some (.cells #[.int .i64 77, .int .i64 (n : Int), .int .i64 (s.ms : Int), .int .i64 (s.tn : Int), .slice (some ⟨m.qb, 0, none⟩) 7 m.qc] 26)
  sl : SndL W m.qb m.qc s.l
  xx : W.heap[X]? = some (.cells #[.int .i64 77, .int .i64 (n : Int), .int .i64 s.ma, .slice (some ⟨m.eb, 0, none⟩) 7 m.ec] 52)
  xl : HearL W m.eb m.ec s.la
  yx : W.heap[Y]? = some (.cells #[.int .i64 77, .int .i64 (n : Int), .int .i64 s.mb, .slice (some ⟨m.fb, 0, none⟩) 7 m.fc] 52)
  yl : HearL W m.fb m.fc s.ls
  ne : X ≠ Y
  rp : RL W B0 59 7 hcl2 (·.2) m.P m.pa m.pc
  ra : RL W B0 63 8 tcl (·.2.2) m.A m.aa m.ac
  rb : RL W B0 63 8 tcl (·.2.2) m.B m.ba m.bc
  rab : ∀ k, (Value.slice m.aa m.A.length m.ac).ownBlock = some k → (Value.slice m.ba m.B.length m.bc).ownBlock ≠ some k
  rc : W.ownsRow B0 3 1 (.slice m.ca s.cs.length m.cc) s.cs.length (vin s.cs)
  rg : W.ownsRow B0 4 1 (.slice m.ga s.gs.length m.gc) s.gs.length (vbo s.gs)
theorem CM.below {W W' : World} {B0 S X Y n : Nat} {s : ST} {m : MA} (h : CM W B0 S X Y n s m) (hb : Below W.heap.size W W') : CM W' B0 S X Y n s m :=
  ⟨row_below h.sx hb, h.sl.below hb, row_below h.xx hb, h.xl.below hb, row_below h.yx hb, h.yl.below hb, h.ne, h.rp.below hb, h.ra.below hb, h.rb.below hb, h.rab, ownsRow_below h.rc hb, ownsRow_below h.rg hb⟩
theorem SndL.kept {W W' : World} {qb qc : Nat} {l : Nat → LQ} {row : Option Nat} (h : SndL W qb qc l) (hg : W.grownBy W' row) (h1 : ∀ b cs, W.heap[b]? = some (.cells cs 42) → row ≠ some b) (h2 : ∀ b cs, W.heap[b]? = some (.cells cs 33) → row ≠ some b) (h3 : ∀ b cs, W.heap[b]? = some (.cells cs 5) → row ≠ some b) : SndL W' qb qc l := by
  obtain ⟨q, k1, k2, k3⟩ := h.ex
  obtain ⟨cq, hq, _⟩ := k1.ex
  exact ⟨⟨q, k1.kept hg (h1 _ _ hq), fun c hc => ⟨(k2 c hc).rd.kept hg h2, fun r hr => ((k2 c hc).rows r hr).kept hg h3⟩, k3⟩, h.k, h.le, h.mx⟩
theorem HearL.kept {W W' : World} {eb ec : Nat} {l : Nat → LE} {row : Option Nat} (h : HearL W eb ec l) (hg : W.grownBy W' row) (h1 : ∀ b cs, W.heap[b]? = some (.cells cs 83) → row ≠ some b) (h2 : ∀ b cs, W.heap[b]? = some (.cells cs 5) → row ≠ some b) : HearL W' eb ec l := by
  obtain ⟨e, k1, k2, k3⟩ := h.ex
  obtain ⟨cq, hq, _⟩ := k1.ex
  exact ⟨⟨e, k1.kept hg (h1 _ _ hq), fun c hc => (k2 c hc).kept hg h2, k3⟩, h.k, h.le, h.mx⟩
theorem row_kept2 {W W' : World} {k T : Nat} {cs : Array Value} {row : Option Nat} (h : W.heap[k]? = some (.cells cs T)) (hg : W.grownBy W' row) (hne : ∀ b cs, W.heap[b]? = some (.cells cs T) → row ≠ some b) : W'.heap[k]? = some (.cells cs T) :=
  (hg.block k (row_lt h) (fun e => hne k cs h e.symm)).trans h
/-- the sender's box is written over -/
theorem CM.snd {W W' : World} {B0 S X Y n : Nat} {s : ST} {m : MA} (h : CM W B0 S X Y n s m) (hg : W.grownBy W' (some S)) {s' : ST} {qb qc : Nat} (hsl : SndL W qb qc s'.l)
    (hx : W'.heap[S]? = some (.cells #[.int .i64 77, .int .i64 (n : Int), .int .i64 (s'.ms : Int), .int .i64 (s'.tn : Int), .slice (some ⟨qb, 0, none⟩) 7 qc] 26))
    (e1 : s'.la = s.la) (e2 : s'.ls = s.ls) (e3 : s'.ma = s.ma) (e4 : s'.mb = s.mb) (e5 : s'.cs = s.cs) (e6 : s'.gs = s.gs) : CM W' B0 S X Y n s' { m with qb := qb, qc := qc } := by
  have t := fun {T' : TypeId} (hT : 26 ≠ T') => row_type h.sx hT
  refine ⟨hx, hsl.kept hg (t (by decide)) (t (by decide)) (t (by decide)), ?_, ?_, ?_, ?_, h.ne, h.rp.kept hg (t (by decide)) (t (by decide)), h.ra.kept hg (t (by decide)) (t (by decide)), h.rb.kept hg (t (by decide)) (t (by decide)), h.rab, ?_, ?_⟩
  · rw [e3]; exact row_kept2 h.xx hg (t (by decide))
  · rw [e1]; exact h.xl.kept hg (t (by decide)) (t (by decide))
  · rw [e4]; exact row_kept2 h.yx hg (t (by decide))
  · rw [e2]; exact h.yl.kept hg (t (by decide)) (t (by decide))
  · rw [e5]; exact own_kept2 h.rc hg (t (by decide))
  · rw [e6]; exact own_kept2 h.rg hg (t (by decide))
/-- a listener's box is written over -/
theorem CM.xbox {W W' : World} {B0 S X Y n : Nat} {s : ST} {m : MA} (h : CM W B0 S X Y n s m) (hg : W.grownBy W' (some X)) {la : Nat → LE} {ma : Int} {eb ec : Nat} (hl : HearL W eb ec la)
    (hx : W'.heap[X]? = some (.cells #[.int .i64 77, .int .i64 (n : Int), .int .i64 ma, .slice (some ⟨eb, 0, none⟩) 7 ec] 52)) : CM W' B0 S X Y n { s with la := la, ma := ma } { m with eb := eb, ec := ec } := by
  have t := fun {T' : TypeId} (hT : 52 ≠ T') => row_type h.xx hT
  exact ⟨row_kept2 h.sx hg (t (by decide)), h.sl.kept hg (t (by decide)) (t (by decide)) (t (by decide)), hx, hl.kept hg (t (by decide)) (t (by decide)), row_grown h.yx hg (fun e => h.ne e.symm), h.yl.kept hg (t (by decide)) (t (by decide)), h.ne, h.rp.kept hg (t (by decide)) (t (by decide)), h.ra.kept hg (t (by decide)) (t (by decide)), h.rb.kept hg (t (by decide)) (t (by decide)), h.rab, own_kept2 h.rc hg (t (by decide)), own_kept2 h.rg hg (t (by decide))⟩
theorem CM.ybox {W W' : World} {B0 S X Y n : Nat} {s : ST} {m : MA} (h : CM W B0 S X Y n s m) (hg : W.grownBy W' (some Y)) {ls : Nat → LE} {mb : Int} {fb fc : Nat} (hl : HearL W fb fc ls)
    (hx : W'.heap[Y]? = some (.cells #[.int .i64 77, .int .i64 (n : Int), .int .i64 mb, .slice (some ⟨fb, 0, none⟩) 7 fc] 52)) : CM W' B0 S X Y n { s with ls := ls, mb := mb } { m with fb := fb, fc := fc } := by
  have t := fun {T' : TypeId} (hT : 52 ≠ T') => row_type h.yx hT
  exact ⟨row_kept2 h.sx hg (t (by decide)), h.sl.kept hg (t (by decide)) (t (by decide)) (t (by decide)), row_grown h.xx hg h.ne, h.xl.kept hg (t (by decide)) (t (by decide)), hx, hl.kept hg (t (by decide)) (t (by decide)), h.ne, h.rp.kept hg (t (by decide)) (t (by decide)), h.ra.kept hg (t (by decide)) (t (by decide)), h.rb.kept hg (t (by decide)) (t (by decide)), h.rab, own_kept2 h.rc hg (t (by decide)), own_kept2 h.rg hg (t (by decide))⟩
section
variable {W W' : World} {B0 S X Y n : Nat} {s : ST} {m : MA}
/-- a packet is put into the row of those that were put -/
theorem CM.appP (h : CM W B0 S X Y n s m) {x : HB} {va : Option Addr} {vc : Nat} (ho : W'.ownsRow B0 59 7 (.slice va (m.P.length + 1) vc) (m.P.length + 1) (m.P.flatMap hcl2 ++ hcl2 x)) (hg : W.grownBy W' (Value.slice m.pa m.P.length m.pc).ownBlock)
    (hx : RdT 5 W x.2.1.1 x.2.1.2.1 x.2.1.2.2 (vb x.2.2.ds)) (hl : x.2.1.2.1 = x.2.2.ds.length) : CM W' B0 S X Y n s { m with pa := va, pc := vc, P := m.P ++ [x] } := by
  have t := fun {T' : TypeId} (hT : 59 ≠ T') => own_type h.rp.ow hT
  exact ⟨row_kept2 h.sx hg (t (by decide)), h.sl.kept hg (t (by decide)) (t (by decide)) (t (by decide)), row_kept2 h.xx hg (t (by decide)), h.xl.kept hg (t (by decide)) (t (by decide)), row_kept2 h.yx hg (t (by decide)), h.yl.kept hg (t (by decide)) (t (by decide)), h.ne, h.rp.snoc ho hg hx hl (t (by decide)), h.ra.kept hg (t (by decide)) (t (by decide)), h.rb.kept hg (t (by decide)) (t (by decide)), h.rab, own_kept2 h.rc hg (t (by decide)), own_kept2 h.rg hg (t (by decide))⟩
theorem rb_kept (h : CM W B0 S X Y n s m) (hg : W.grownBy W' (Value.slice m.aa m.A.length m.ac).ownBlock) : RL W' B0 63 8 tcl (·.2.2) m.B m.ba m.bc := by
  have t := fun {T' : TypeId} (hT : 63 ≠ T') => own_type h.ra.ow hT
  refine ⟨h.rb.ow.kept hg ?_, fun x hx => (h.rb.rd x hx).kept hg (t (by decide)), h.rb.ln⟩
  rcases h.rb.ow.2 with ⟨h0, _⟩ | ⟨g1, c1, cu, h0, _, h3, _⟩
  · exact .inl (by rw [h0]; rfl)
  · exact .inr (fun e => h.rab g1 (by rw [← e, h0]; rfl) (by rw [h0]; rfl))
theorem ra_kept (h : CM W B0 S X Y n s m) (hg : W.grownBy W' (Value.slice m.ba m.B.length m.bc).ownBlock) : RL W' B0 63 8 tcl (·.2.2) m.A m.aa m.ac := by
  have t := fun {T' : TypeId} (hT : 63 ≠ T') => own_type h.rb.ow hT
  refine ⟨h.ra.ow.kept hg ?_, fun x hx => (h.ra.rd x hx).kept hg (t (by decide)), h.ra.ln⟩
  rcases h.ra.ow.2 with ⟨h0, _⟩ | ⟨g1, c1, cu, h0, _, h3, _⟩
  · exact .inl (by rw [h0]; rfl)
  · exact .inr (fun e => h.rab g1 (by rw [h0]; rfl) (by rw [← e, h0]; rfl))
theorem CM.appA (h : CM W B0 S X Y n s m) {x : TB} {va : Option Addr} {vc : Nat} (ho : W'.ownsRow B0 63 8 (.slice va (m.A.length + 1) vc) (m.A.length + 1) (m.A.flatMap tcl ++ tcl x)) (hg : W.grownBy W' (Value.slice m.aa m.A.length m.ac).ownBlock)
    (hx : RdT 5 W x.2.2.1.1 x.2.2.1.2.1 x.2.2.1.2.2 (vb x.2.2.2.ds)) (hl : x.2.2.1.2.1 = x.2.2.2.ds.length) (hw : (Value.slice va (m.A.length + 1) vc).ownBlock = (Value.slice m.aa m.A.length m.ac).ownBlock ∨ (Value.slice va (m.A.length + 1) vc).ownBlock = some W.heap.size) : CM W' B0 S X Y n s { m with aa := va, ac := vc, A := m.A ++ [x] } := by
  have t := fun {T' : TypeId} (hT : 63 ≠ T') => own_type h.ra.ow hT
  refine ⟨row_kept2 h.sx hg (t (by decide)), h.sl.kept hg (t (by decide)) (t (by decide)) (t (by decide)), row_kept2 h.xx hg (t (by decide)), h.xl.kept hg (t (by decide)) (t (by decide)), row_kept2 h.yx hg (t (by decide)), h.yl.kept hg (t (by decide)) (t (by decide)), h.ne, h.rp.kept hg (t (by decide)) (t (by decide)), h.ra.snoc ho hg hx hl (t (by decide)), rb_kept (m := m) h hg, fun k hk => ?_, own_kept2 h.rc hg (t (by decide)), own_kept2 h.rg hg (t (by decide))⟩
  have hk' : (Value.slice va (m.A.length + 1) vc).ownBlock = some k := by
    rw [← hk]
    show _ = (Value.slice va (m.A ++ [x]).length vc).ownBlock
    rw [List.length_append]
    rfl
  intro hb
  rcases hw with e | e
  · exact h.rab k (by rw [← e]; exact hk') hb
  · rw [e] at hk'
    cases hk'
    exact absurd (h.rb.ow.lt _ hb).2 (Nat.lt_irrefl _)
theorem CM.appB (h : CM W B0 S X Y n s m) {x : TB} {va : Option Addr} {vc : Nat} (ho : W'.ownsRow B0 63 8 (.slice va (m.B.length + 1) vc) (m.B.length + 1) (m.B.flatMap tcl ++ tcl x)) (hg : W.grownBy W' (Value.slice m.ba m.B.length m.bc).ownBlock)
    (hx : RdT 5 W x.2.2.1.1 x.2.2.1.2.1 x.2.2.1.2.2 (vb x.2.2.2.ds)) (hl : x.2.2.1.2.1 = x.2.2.2.ds.length) (hw : (Value.slice va (m.B.length + 1) vc).ownBlock = (Value.slice m.ba m.B.length m.bc).ownBlock ∨ (Value.slice va (m.B.length + 1) vc).ownBlock = some W.heap.size) : CM W' B0 S X Y n s { m with ba := va, bc := vc, B := m.B ++ [x] } := by
  have t := fun {T' : TypeId} (hT : 63 ≠ T') => own_type h.rb.ow hT
  refine ⟨row_kept2 h.sx hg (t (by decide)), h.sl.kept hg (t (by decide)) (t (by decide)) (t (by decide)), row_kept2 h.xx hg (t (by decide)), h.xl.kept hg (t (by decide)) (t (by decide)), row_kept2 h.yx hg (t (by decide)), h.yl.kept hg (t (by decide)) (t (by decide)), h.ne, h.rp.kept hg (t (by decide)) (t (by decide)), ra_kept (m := m) h hg, h.rb.snoc ho hg hx hl (t (by decide)), fun k hk => ?_, own_kept2 h.rc hg (t (by decide)), own_kept2 h.rg hg (t (by decide))⟩
  intro hb
  have hb' : (Value.slice va (m.B.length + 1) vc).ownBlock = some k := by
    rw [← hb]
    show _ = (Value.slice va (m.B ++ [x]).length vc).ownBlock
    rw [List.length_append]
    rfl
  rcases hw with e | e
  · exact h.rab k hk (by rw [← e]; exact hb')
  · rw [e] at hb'
    cases hb'
    exact absurd (h.ra.ow.lt _ hk).2 (Nat.lt_irrefl _)
theorem CM.appC (h : CM W B0 S X Y n s m) {c : Nat} {va : Option Addr} {vc : Nat} (ho : W'.ownsRow B0 3 1 (.slice va (s.cs.length + 1) vc) (s.cs.length + 1) (vin s.cs ++ [.int .i64 (c : Int)])) (hg : W.grownBy W' (Value.slice m.ca s.cs.length m.cc).ownBlock) : CM W' B0 S X Y n { s with cs := s.cs ++ [c] } { m with ca := va, cc := vc } := by
  have t := fun {T' : TypeId} (hT : 3 ≠ T') => own_type h.rc hT
  refine ⟨row_kept2 h.sx hg (t (by decide)), h.sl.kept hg (t (by decide)) (t (by decide)) (t (by decide)), row_kept2 h.xx hg (t (by decide)), h.xl.kept hg (t (by decide)) (t (by decide)), row_kept2 h.yx hg (t (by decide)), h.yl.kept hg (t (by decide)) (t (by decide)), h.ne, h.rp.kept hg (t (by decide)) (t (by decide)), h.ra.kept hg (t (by decide)) (t (by decide)), h.rb.kept hg (t (by decide)) (t (by decide)), h.rab, ?_, own_kept2 h.rg hg (t (by decide))⟩
  show W'.ownsRow B0 3 1 (.slice va (s.cs ++ [c]).length vc) (s.cs ++ [c]).length (vin (s.cs ++ [c]))
  unfold vin
  rw [List.length_append, List.map_append]
  exact ho
theorem CM.appG (h : CM W B0 S X Y n s m) {b : Bool} {va : Option Addr} {vc : Nat} (ho : W'.ownsRow B0 4 1 (.slice va (s.gs.length + 1) vc) (s.gs.length + 1) (vbo s.gs ++ [.bool b])) (hg : W.grownBy W' (Value.slice m.ga s.gs.length m.gc).ownBlock) : CM W' B0 S X Y n { s with gs := s.gs ++ [b] } { m with ga := va, gc := vc } := by
  have t := fun {T' : TypeId} (hT : 4 ≠ T') => own_type h.rg hT
  refine ⟨row_kept2 h.sx hg (t (by decide)), h.sl.kept hg (t (by decide)) (t (by decide)) (t (by decide)), row_kept2 h.xx hg (t (by decide)), h.xl.kept hg (t (by decide)) (t (by decide)), row_kept2 h.yx hg (t (by decide)), h.yl.kept hg (t (by decide)) (t (by decide)), h.ne, h.rp.kept hg (t (by decide)) (t (by decide)), h.ra.kept hg (t (by decide)) (t (by decide)), h.rb.kept hg (t (by decide)) (t (by decide)), h.rab, own_kept2 h.rc hg (t (by decide)), ?_⟩
  show W'.ownsRow B0 4 1 (.slice va (s.gs ++ [b]).length vc) (s.gs ++ [b]).length (vbo (s.gs ++ [b]))
  unfold vbo
  rw [List.length_append, List.map_append]
  exact ho
/-- what in s is not in memory may be another -/
theorem CM.congr {s' : ST} (h : CM W B0 S X Y n s m) (e1 : s'.l = s.l) (e2 : s'.la = s.la) (e3 : s'.ls = s.ls) (e4 : s'.ma = s.ma) (e5 : s'.mb = s.mb) (e6 : s'.ms = s.ms) (e7 : s'.tn = s.tn) (e8 : s'.cs = s.cs) (e9 : s'.gs = s.gs) : CM W B0 S X Y n s' m := by
  obtain ⟨h1, h2, h3, h4, h5, h6, h7, h8, h9, h10, h11, h12, h13⟩ := h
  exact ⟨by rw [e6, e7]; exact h1, by rw [e1]; exact h2, by rw [e4]; exact h3, by rw [e2]; exact h4, by rw [e5]; exact h5, by rw [e3]; exact h6, h7, h8, h9, h10, h11, by rw [e8]; exact h12, by rw [e9]; exact h13⟩
end
/-- the law's slots -/
structure SC (y : Nat → Value) (ja : Option Addr) (jn jc n S X Y i : Nat) (s : ST) (m : MA) : Prop where
  s1 : y 1 = .slice ja jn jc
  s5 : y 5 = .int .i64 (n : Int)
  s6 : y 6 = .pointer (some ⟨S, 0, none⟩)
  s8 : y 8 = .pointer (some ⟨X, 0, none⟩)
  s10 : y 10 = .pointer (some ⟨Y, 0, none⟩)
  s12 : y 12 = .slice m.pa m.P.length m.pc
  s13 : y 13 = .slice m.aa m.A.length m.ac
  s14 : y 14 = .slice m.ba m.B.length m.bc
  s15 : y 15 = .slice m.ca s.cs.length m.cc
  s16 : y 16 = .slice m.ga s.gs.length m.gc
  s17 : y 17 = .int .i64 (s.mi : Int)
  s18 : y 18 = .int .i64 (i : Int)
/-- the rows in memory are those of the state -/
structure RelC (s : ST) (m : MA) : Prop where
  p : m.P.map (fun x => (x.1, x.2.2)) = s.put
  a : m.A.map (fun t => (t.1, t.2.1, t.2.2.2)) = s.E.map (fun e => (e.fr, e.ch, e.pk))
  b : m.B.map (fun t => (t.1, t.2.1, t.2.2.2)) = (flg s.E).map (fun e => (e.fr, e.ch, e.pk))
end Go.Proofs.Ytjiipmalahhcpaa
/- FrameCarries: a packet is put. -/
namespace Go.Proofs.Ytjiipmalahhcpaa
set_option linter.unusedVariables false
open Go.RowKit

set_option maxRecDepth 1000000 in
theorem fr486 (y : Nat → Value) : fr 486 y = #[y 0, y 1, y 2, y 3, y 4, y 5, y 6, y 7, y 8, y 9, y 10, y 11, y 12, y 13, y 14, y 15, y 16, y 17, y 18, y 19, y 20, y 21, y 22, y 23, y 24, y 25, y 26, y 27, y 28, y 29, y 30, y 31, y 32, y 33, y 34, y 35, y 36, y 37, y 38, y 39, y 40, y 41, y 42, y 43, y 44, y 45, y 46, y 47, y 48, y 49, y 50, y 51, y 52, y 53, y 54, y 55, y 56, y 57, y 58, y 59, y 60, y 61, y 62, y 63, y 64, y 65, y 66, y 67, y 68, y 69, y 70, y 71, y 72, y 73, y 74, y 75, y 76, y 77, y 78, y 79, y 80, y 81, y 82, y 83, y 84, y 85, y 86, y 87, y 88, y 89, y 90, y 91, y 92, y 93, y 94, y 95, y 96, y 97, y 98, y 99, y 100, y 101, y 102, y 103, y 104, y 105, y 106, y 107, y 108, y 109, y 110, y 111, y 112, y 113, y 114, y 115, y 116, y 117, y 118, y 119, y 120, y 121, y 122, y 123, y 124, y 125, y 126, y 127, y 128, y 129, y 130, y 131, y 132, y 133, y 134, y 135, y 136, y 137, y 138, y 139, y 140, y 141, y 142, y 143, y 144, y 145, y 146, y 147, y 148, y 149, y 150, y 151, y 152, y 153, y 154, y 155, y 156, y 157, y 158, y 159, y 160, y 161, y 162, y 163, y 164, y 165, y 166, y 167, y 168, y 169, y 170, y 171, y 172, y 173, y 174, y 175, y 176, y 177, y 178, y 179, y 180, y 181, y 182, y 183, y 184, y 185, y 186, y 187, y 188, y 189, y 190, y 191, y 192, y 193, y 194, y 195, y 196, y 197, y 198, y 199, y 200, y 201, y 202, y 203, y 204, y 205, y 206, y 207, y 208, y 209, y 210, y 211, y 212, y 213, y 214, y 215, y 216, y 217, y 218, y 219, y 220, y 221, y 222, y 223, y 224, y 225, y 226, y 227, y 228, y 229, y 230, y 231, y 232, y 233, y 234, y 235, y 236, y 237, y 238, y 239, y 240, y 241, y 242, y 243, y 244, y 245, y 246, y 247, y 248, y 249, y 250, y 251, y 252, y 253, y 254, y 255, y 256, y 257, y 258, y 259, y 260, y 261, y 262, y 263, y 264, y 265, y 266, y 267, y 268, y 269, y 270, y 271, y 272, y 273, y 274, y 275, y 276, y 277, y 278, y 279, y 280, y 281, y 282, y 283, y 284, y 285, y 286, y 287, y 288, y 289, y 290, y 291, y 292, y 293, y 294, y 295, y 296, y 297, y 298, y 299, y 300, y 301, y 302, y 303, y 304, y 305, y 306, y 307, y 308, y 309, y 310, y 311, y 312, y 313, y 314, y 315, y 316, y 317, y 318, y 319, y 320, y 321, y 322, y 323, y 324, y 325, y 326, y 327, y 328, y 329, y 330, y 331, y 332, y 333, y 334, y 335, y 336, y 337, y 338, y 339, y 340, y 341, y 342, y 343, y 344, y 345, y 346, y 347, y 348, y 349, y 350, y 351, y 352, y 353, y 354, y 355, y 356, y 357, y 358, y 359, y 360, y 361, y 362, y 363, y 364, y 365, y 366, y 367, y 368, y 369, y 370, y 371, y 372, y 373, y 374, y 375, y 376, y 377, y 378, y 379, y 380, y 381, y 382, y 383, y 384, y 385, y 386, y 387, y 388, y 389, y 390, y 391, y 392, y 393, y 394, y 395, y 396, y 397, y 398, y 399, y 400, y 401, y 402, y 403, y 404, y 405, y 406, y 407, y 408, y 409, y 410, y 411, y 412, y 413, y 414, y 415, y 416, y 417, y 418, y 419, y 420, y 421, y 422, y 423, y 424, y 425, y 426, y 427, y 428, y 429, y 430, y 431, y 432, y 433, y 434, y 435, y 436, y 437, y 438, y 439, y 440, y 441, y 442, y 443, y 444, y 445, y 446, y 447, y 448, y 449, y 450, y 451, y 452, y 453, y 454, y 455, y 456, y 457, y 458, y 459, y 460, y 461, y 462, y 463, y 464, y 465, y 466, y 467, y 468, y 469, y 470, y 471, y 472, y 473, y 474, y 475, y 476, y 477, y 478, y 479, y 480, y 481, y 482, y 483, y 484, y 485] := rfl
def jobPK (c g i : Nat) : PK := ⟨false, false, c, 3, i, i :: List.replicate g 0⟩
theorem jobPK_ok (c g i : Nat) (hc : c < 7) (hg : g < 90) (hi : i < 200) : (jobPK c g i).Ok :=
  ⟨fun x hx => by
    have hx' : x ∈ i :: List.replicate g 0 := hx
    rcases List.mem_cons.1 hx' with h | h
    · omega
    · have := (List.mem_replicate.1 h).2; omega, by show c ≤ 2047; omega, by show 3 ≤ 3; omega, by show i ≤ 16383; omega, by show 0 < (i :: List.replicate g 0).length; simp, by show (i :: List.replicate g 0).length ≤ 65536; simp; omega⟩
theorem jobPK_real (c g i : Nat) (hc : c < 7) : realP (jobPK c g i) = true := by
  show (!(c == 2047)) = true
  rw [show (c == 2047) = false by rw [beq_eq_false_iff_ne]; omega]
  rfl
/-- a fresh row of nought with its first byte set -/
theorem rd_first {W : World} {D g i : Nat} (h : W.heap[D]? = some (.cells (madeCells #[.int .u8 0] ((1 + g) * 1)) 5)) (hg : g ≤ 70000) :
    W.cell? ⟨D, 0, none⟩ = some (.int .u8 0) ∧ W.frozen? ⟨D, 0, none⟩ = false ∧ RdT 5 (W.setCell ⟨D, 0, none⟩ (.int .u8 (i : Int))) (some ⟨D, 0, none⟩) (1 + g) (1 + g) (vb (i :: List.replicate g 0)) ∧ W.grownBy (W.setCell ⟨D, 0, none⟩ (.int .u8 (i : Int))) (some D) := by
  obtain ⟨h1, h2⟩ := set_row h 0 (.int .u8 (i : Int)) rfl
  have hsz : (madeCells #[.int .u8 0] ((1 + g) * 1)).size = 1 + g := by rw [size_madeCells, Nat.mul_one]
  have hat : ∀ j, j < 1 + g → (madeCells #[Value.int .u8 0] ((1 + g) * 1))[j]? = some (.int .u8 0) := fun j hj => by
    simp [madeCells, Nat.mod_one, hj]
  refine ⟨by rw [cell_of_row _ _ _ _ _ _ h, hat 0 (by omega)], frozen_row h 0, ⟨⟨?_, Nat.le_refl _, by unfold maxLen; omega, (fun e => by cases e), fun _ => ⟨D, 0, rfl, row_lt h1, fun j hj => ?_⟩⟩, fun _ => ⟨D, 0, _, rfl, h1⟩⟩, h2⟩
  · rw [vb_len, List.length_cons, List.length_replicate]; omega
  · rw [Nat.zero_add, cell_of_row _ _ _ _ _ _ h1, vb_get _ j (by rw [List.length_cons, List.length_replicate]; omega), Array.getElem?_setIfInBounds]
    by_cases e : 0 = j
    · subst e
      rw [if_pos rfl, if_pos (by rw [hsz]; omega)]
      rfl
    · rw [if_neg e, hat j hj]
      obtain ⟨k, rfl⟩ : ∃ k, j = k + 1 := ⟨j - 1, by omega⟩
      unfold nth
      rw [List.getD_cons_succ, List.getD_eq_getElem?_getD, List.getElem?_replicate, if_pos (by omega)]
      rfl
theorem q_frX {N : Nat} {Q : Exit → Act → World → Prop} {e : Exit} {Post : (Nat → Value) → World → Prop} {t : Array Value} {w : World} (hq : ∀ y' w', Post y' w' → Q e ⟨fr N y', []⟩ w') (hs : t.size = N) (hp : Post (fun i => t.getD i undef) w) : Q e ⟨t, []⟩ w := by
  rw [fr_of hs]
  exact hq _ w hp
structure PutE (W W' : World) (y : Nat → Value) (ja : Option Addr) (jn jc n S X Y i B0 : Nat) (s' : ST) : Prop where
  ex : ∃ m', SC y ja jn jc n S X Y i s' m' ∧ CM W' B0 S X Y n s' m' ∧ RelC s' m'
  blw : Below B0 W W'
set_option maxRecDepth 1000000 in
set_option maxHeartbeats 8000000 in
theorem car_put (b off jn jc n S X Y i B0 : Nat) (s : ST) (m : MA) (z1 z2 : Int) (hz1 : InI z1) (hz2 : InI z2) (hi : i < jn) (hjn : jn ≤ 200) (hn1 : 13 ≤ n) (hn2 : n ≤ 2048) (hB : B0 ≤ S) (hC : CI (n - 12) jn i s) (hR : RelC s m)
    (Q : Exit → Act → World → Prop) (y : Nat → Value) (w : World) (hS : SC y (some ⟨b, off, none⟩) jn jc n S X Y i s m) (hM : CM w B0 S X Y n s m)
    (c1 : w.cell? ⟨b, off + i * 4 + 1, none⟩ = some (.int .i64 z1)) (c2 : w.cell? ⟨b, off + i * 4 + 2, none⟩ = some (.int .i64 z2))
    (hQ : ∀ y' w', PutE w w' y' (some ⟨b, off, none⟩) jn jc n S X Y i B0 (s.puts (pk z1 7) (jobPK (pk z1 7) (pk z2 90) i)) → Q (.exit 1) ⟨fr 486 y', []⟩ w') :
    Code.wp Try.prog (pieceOf Try.f4 [1, 1, 1, 1, 1, 1, 1, 1, 1, 1, 1, 1, 0, 1, 0, 0, 1, 0, 0, 0, 1, 0]) Q ⟨fr 486 y, []⟩ w := by
  have HQ := hid hQ
  obtain ⟨s1, s5, s6, s8, s10, s12, s13, s14, s15, s16, s17, s18⟩ := hS
  have hp1 := pick_st z1 7 w hz1.1 hz1.2 (by decide) (by decide)
  have hp2 := pick_st z2 90 w hz2.1 hz2.2 (by decide) (by decide)
  have hc7 := pk_lt z1 7 (by decide)
  have hg90 := pk_lt z2 90 (by decide)
  rw [show (7 : Int).toNat = 7 from rfl] at hp1
  rw [show (90 : Int).toNat = 90 from rfl] at hp2
  generalize pk z1 7 = c at *
  generalize pk z2 90 = g at *
  have hij : (i : Int) < (jn : Int) := by omega
  have hi200 : i < 200 := by omega
  have Hjp := hid (jobPK_ok c g i hc7 hg90 hi200)
  have Hjr := hid (jobPK_real c g i hc7)
  have hms := hC.ms
  have htn := hC.tn
  have hws := hC.ws c hc7
  have hpl := hC.lp
  have hpP : m.P.length = s.put.length := by rw [← hR.p, List.length_map]
  have hP200 : m.P.length ≤ 200 := by omega
  have HR := hid hR
  have HMm := hid hM
  have HSl := hid (row_lt hM.sx)
  clear hQ hC hR hM hpl hpP
  obtain ⟨n1, hn1'⟩ : ∃ n1, n1 = 1 + g := ⟨_, rfl⟩
  have a1 : (1 : Int) + (g : Int) = (n1 : Int) := by omega
  have a2 : IntKind.i64.wrap (n1 : Int) = (n1 : Int) := IntWalk.i64_in _ (by omega)
  have a3 : IntKind.i64.wrap ((1 : Int) + (g : Int)) = (n1 : Int) := by rw [a1]; exact a2
  have hn1b : 1 ≤ n1 ∧ n1 ≤ 90 := by omega
  have hmk := run_mkB n1 (by omega) w
  have bV := below_alloc w (.cells (madeCells #[.int .u8 0] (n1 * 1)) 5)
  have rV := heap_alloc_new w (.cells (madeCells #[.int .u8 0] (n1 * 1)) 5)
  have zV : Hid ((w.alloc (.cells (madeCells #[.int .u8 0] (n1 * 1)) 5)).heap.size = w.heap.size + 1) := World.size_alloc _ _
  have RV := hid rV
  have BV := hid bV
  obtain ⟨D, hD⟩ : ∃ D, D = w.heap.size := ⟨_, rfl⟩
  rw [← hD] at hmk RV BV zV
  have HD := hid hD
  have HSD : Hid (S < D) := by unfold Hid; rw [hD]; exact HSl.out
  clear rV bV hD HSl
  obtain ⟨MB, hMB⟩ : ∃ MB, MB = madeCells #[Value.int .u8 0] (n1 * 1) := ⟨_, rfl⟩
  rw [← hMB] at hmk RV BV zV
  have HMB := hid hMB
  clear hMB
  generalize w.alloc (.cells MB 5) = V1 at *
  have HN1 := hid hn1'
  clear hn1'
  conv => arg 2; whnf
  rw [fr486]
  simp only [s1, s5, s6, s8, s10, s12, s13, s14, s15, s16, s17, s18]
  clear s1 s5 s6 s8 s10 s12 s13 s14 s15 s16 s17 s18
  refine wp_seq_k (fun K0 hK0 => ?_)
  go_wp2_with fail
  refine hp1.mono ?_
  rintro e w' ⟨rfl, hw'⟩
  rw [hw']
  clear hw' w' hp1
  go_wp2_with fail
  refine hK0.out _ _ ?_
  refine wp_seq_k (fun K1 hK1 => ?_)
  go_wp2_with fail
  refine hp2.mono ?_
  rintro e w' ⟨rfl, hw'⟩
  rw [hw']
  clear hw' w' hp2
  go_wp2_with fail
  refine hK1.out _ _ ?_
  clear a1 a2 a3 hmk c1 c2
  have b2 := below_alloc V1 (.cells #[.bool false, .bool false, .int .i64 (c : Int), .int .i64 3, .int .i64 (i : Int), .slice (some ⟨D, 0, none⟩) n1 n1] 38)
  have r2 := heap_alloc_new V1 (.cells #[.bool false, .bool false, .int .i64 (c : Int), .int .i64 3, .int .i64 (i : Int), .slice (some ⟨D, 0, none⟩) n1 n1] 38)
  rw [zV.out] at r2 ⊢
  have R2 := hid r2
  have D2 := hid (row_below RV.out b2)
  have B2 := hid (BV.out.trans (b2.mono (by rw [zV.out]; exact Nat.le_succ _)))
  clear b2 r2 RV BV
  generalize V1.alloc (.cells #[.bool false, .bool false, .int .i64 (c : Int), .int .i64 3, .int .i64 (i : Int), .slice (some ⟨D, 0, none⟩) n1 n1] 38) = V2 at *
  have hD2 : V2.heap[D]? = some (.cells (madeCells #[.int .u8 0] ((1 + g) * 1)) 5) := by rw [D2.out, HMB.out, HN1.out]
  obtain ⟨q0, qf, hrd, hgr⟩ := rd_first (i := i) hD2 (by omega)
  have x5 : V2.cell? ⟨D + 1, 5, none⟩ = some (.slice (some ⟨D, 0, none⟩) n1 n1) := by rw [cell_of_row _ _ _ _ _ _ R2.out]; rfl
  have u1 : IntKind.u8.wrap (i : Int) = (i : Int) := by
    show (i : Int) % 256 = (i : Int)
    omega
  have hn0 : (0 : Int) < (n1 : Int) := by omega
  rw [← HN1.out] at hrd
  have HRd := hid hrd
  have HGr := hid hgr
  have R3 := hid (row_grown R2.out hgr (Nat.succ_ne_self D))
  have B3 := hid (B2.out.grown hgr (Nat.le_trans (Nat.le_refl D) (Nat.le_of_lt (row_lt hD2))) (fun k e => by cases e; exact Nat.le_refl _))
  clear hD2 hrd hgr D2
  refine wp_seq_k (fun K2 hK2 => ?_)
  go_wp2_with fail
  refine hK2.out _ _ ?_
  clear q0 qf x5 u1 R2 B2
  generalize V2.setCell ⟨D, 0, none⟩ (.int .u8 (i : Int)) = V3 at *
  have henc := encode_ok false false c 3 i (some ⟨D, 0, none⟩) n1 n1 (i :: List.replicate g 0) V3 HRd.out.rd (by omega) (by omega) (by omega) (by omega) (by omega)
  rw [show ((3 : Nat) : Int) = 3 from rfl, show encB false false c 3 i (i :: List.replicate g 0) = (jobPK c g i).enc from rfl] at henc
  have x0 : V3.cell? ⟨D + 1, 0, none⟩ = some (.bool false) := by rw [cell_of_row _ _ _ _ _ _ R3.out]; rfl
  have x1 : V3.cell? ⟨D + 1, 1, none⟩ = some (.bool false) := by rw [cell_of_row _ _ _ _ _ _ R3.out]; rfl
  have x2 : V3.cell? ⟨D + 1, 2, none⟩ = some (.int .i64 (c : Int)) := by rw [cell_of_row _ _ _ _ _ _ R3.out]; rfl
  have x3 : V3.cell? ⟨D + 1, 3, none⟩ = some (.int .i64 3) := by rw [cell_of_row _ _ _ _ _ _ R3.out]; rfl
  have x4 : V3.cell? ⟨D + 1, 4, none⟩ = some (.int .i64 (i : Int)) := by rw [cell_of_row _ _ _ _ _ _ R3.out]; rfl
  have x5 : V3.cell? ⟨D + 1, 5, none⟩ = some (.slice (some ⟨D, 0, none⟩) n1 n1) := by rw [cell_of_row _ _ _ _ _ _ R3.out]; rfl
  have HM3 := hid (HMm.out.below (by rw [← HD.out]; exact B3.out))
  clear HMm
  generalize hbl : 2 + 2 + 2 + n1 = bl at *
  have hbl2 : bl ≤ 96 := by omega
  clear hbl
  refine wp_seq_k (fun K3 hK3 => ?_)
  go_wp2_with fail
  refine henc.mono ?_
  rintro e V4 ⟨ao, cc, rfl, ho, hb⟩
  have HM4 := hid (HM3.out.below hb)
  have B4 := hid (B3.out.trans (hb.mono (by rw [HD.out]; exact B3.out.size)))
  have HO4 := hid (Rd.ofOwn ho)
  have R4 := hid (row_below R3.out hb)
  have HRd4 := hid (HRd.out.below hb)
  clear henc ho hb HM3 B3 R3 HRd x0 x1 x2 x3 x4 x5
  go_wp2_with fail
  refine hK3.out _ _ ?_
  refine wp_seq_k (fun K4 hK4 => ?_)
  go_wp2_with fail
  refine hK4.out _ _ ?_
  have hput := put_ok 77 n s.ms s.tn m.qb m.qc c s.l ao bl cc (jobPK c g i).enc V4 HM4.out.sl (by decide) hn1 hn2 hms htn hc7 HO4.out ⟨_, _, _, _, _, _, rfl, Hjp.out.ds, Hjp.out.ap, Hjp.out.pt, Hjp.out.ct, Hjp.out.lo, Hjp.out.hi⟩ (by omega)
  unfold sv at hput
  rw [show ((77 : Nat) : Int) = 77 from rfl] at hput
  have t0 : V4.cell? ⟨S, 0, none⟩ = some (.int .i64 77) := by rw [cell_of_row _ _ _ _ _ _ HM4.out.sx]; rfl
  have t1 : V4.cell? ⟨S, 1, none⟩ = some (.int .i64 (n : Int)) := by rw [cell_of_row _ _ _ _ _ _ HM4.out.sx]; rfl
  have t2 : V4.cell? ⟨S, 2, none⟩ = some (.int .i64 (s.ms : Int)) := by rw [cell_of_row _ _ _ _ _ _ HM4.out.sx]; rfl
  have t3 : V4.cell? ⟨S, 3, none⟩ = some (.int .i64 (s.tn : Int)) := by rw [cell_of_row _ _ _ _ _ _ HM4.out.sx]; rfl
  have t4 : V4.cell? ⟨S, 4, none⟩ = some (.slice (some ⟨m.qb, 0, none⟩) 7 m.qc) := by rw [cell_of_row _ _ _ _ _ _ HM4.out.sx]; rfl
  have hSB : B0 ≤ D := Nat.le_trans hB (Nat.le_of_lt HSD.out)
  have HSB := hid hSB
  clear hSB
  refine wp_seq_k (fun K5 hK5 => ?_)
  go_wp2_with fail
  refine hput.mono ?_
  rintro e V5 ⟨⟨qb2, qc2, rfl, hs2⟩, hb⟩
  unfold sv
  rw [show ((77 : Nat) : Int) = 77 from rfl]
  have HM5 := hid (HM4.out.below hb)
  have B5 := hid (B4.out.trans (hb.mono (by rw [HD.out]; exact B4.out.size)))
  have R5 := hid (row_below R4.out hb)
  have HRd5 := hid (HRd4.out.below hb)
  have hbx := HM5.out.sx
  have t0 : V5.cell? ⟨S, 0, none⟩ = some (.int .i64 77) := by rw [cell_of_row _ _ _ _ _ _ hbx]; rfl
  have t1 : V5.cell? ⟨S, 1, none⟩ = some (.int .i64 (n : Int)) := by rw [cell_of_row _ _ _ _ _ _ hbx]; rfl
  have t2 : V5.cell? ⟨S, 2, none⟩ = some (.int .i64 (s.ms : Int)) := by rw [cell_of_row _ _ _ _ _ _ hbx]; rfl
  have t3 : V5.cell? ⟨S, 3, none⟩ = some (.int .i64 (s.tn : Int)) := by rw [cell_of_row _ _ _ _ _ _ hbx]; rfl
  have t4 : V5.cell? ⟨S, 4, none⟩ = some (.slice (some ⟨m.qb, 0, none⟩) 7 m.qc) := by rw [cell_of_row _ _ _ _ _ _ hbx]; rfl
  have fz := frozen_row hbx
  obtain ⟨f1, f2⟩ := five hbx (.int .i64 77) (.int .i64 (n : Int)) (.int .i64 (s.ms : Int)) (.int .i64 (s.tn : Int)) (.slice (some ⟨qb2, 0, none⟩) 7 qc2)
  have HM6 : Hid (CM (((((V5.setCell ⟨S, 0, none⟩ (.int .i64 77)).setCell ⟨S, 1, none⟩ (.int .i64 (n : Int))).setCell ⟨S, 2, none⟩ (.int .i64 (s.ms : Int))).setCell ⟨S, 3, none⟩ (.int .i64 (s.tn : Int))).setCell ⟨S, 4, none⟩ (.slice (some ⟨qb2, 0, none⟩) 7 qc2)) B0 S X Y n (s.puts c (jobPK c g i)) { m with qb := qb2, qc := qc2 }) := HM5.out.snd (s' := s.puts c (jobPK c g i)) f2 hs2 f1 rfl rfl rfl rfl rfl rfl
  have B6 := hid ((B5.out.mono HSB.out).grown f2 (Nat.le_trans hB (Nat.le_of_lt (row_lt hbx))) (fun k e => by cases e; exact hB))
  have R6 := hid (row_grown R5.out f2 (by have := HSD.out; omega))
  have HRd6 := hid (HRd5.out.other f2 hbx (by decide))
  clear hbx f1 f2 HM5 B5 R5 HRd5 hput hs2 hb HM4 B4 R4 HRd4 HO4
  go_wp2_with fail
  refine hK5.out _ _ ?_
  clear t0 t1 t2 t3 t4 fz
  generalize ((((V5.setCell ⟨S, 0, none⟩ (.int .i64 77)).setCell ⟨S, 1, none⟩ (.int .i64 (n : Int))).setCell ⟨S, 2, none⟩ (.int .i64 (s.ms : Int))).setCell ⟨S, 3, none⟩ (.int .i64 (s.tn : Int))).setCell ⟨S, 4, none⟩ (.slice (some ⟨qb2, 0, none⟩) 7 qc2) = V6 at *
  refine wp_seq_k (fun K6 hK6 => ?_)
  go_wp2_with fail
  refine hK6.out _ _ ?_
  have x0 : V6.cell? ⟨D + 1, 0, none⟩ = some (.bool false) := by rw [cell_of_row _ _ _ _ _ _ R6.out]; rfl
  have x1 : V6.cell? ⟨D + 1, 1, none⟩ = some (.bool false) := by rw [cell_of_row _ _ _ _ _ _ R6.out]; rfl
  have x2 : V6.cell? ⟨D + 1, 2, none⟩ = some (.int .i64 (c : Int)) := by rw [cell_of_row _ _ _ _ _ _ R6.out]; rfl
  have x3 : V6.cell? ⟨D + 1, 3, none⟩ = some (.int .i64 3) := by rw [cell_of_row _ _ _ _ _ _ R6.out]; rfl
  have x4 : V6.cell? ⟨D + 1, 4, none⟩ = some (.int .i64 (i : Int)) := by rw [cell_of_row _ _ _ _ _ _ R6.out]; rfl
  have x5 : V6.cell? ⟨D + 1, 5, none⟩ = some (.slice (some ⟨D, 0, none⟩) n1 n1) := by rw [cell_of_row _ _ _ _ _ _ R6.out]; rfl
  obtain ⟨x, hx⟩ : ∃ x : HB, x = (c, ((some ⟨D, 0, none⟩, n1, n1), jobPK c g i)) := ⟨_, rfl⟩
  have b7 := below_alloc V6 (.cells #[.int .i64 (c : Int), .bool false, .bool false, .int .i64 (c : Int), .int .i64 3, .int .i64 (i : Int), .slice (some ⟨D, 0, none⟩) n1 n1] 59)
  have hn7 : ∀ (k : Nat) (u : Value), (hcl2 x)[k]? = some u → (V6.alloc (.cells #[.int .i64 (c : Int), .bool false, .bool false, .int .i64 (c : Int), .int .i64 3, .int .i64 (i : Int), .slice (some ⟨D, 0, none⟩) n1 n1] 59)).cell? ((⟨V6.heap.size, 0, none⟩ : Addr).add k) = some u := by rw [hx]; exact new_cells V6 (hcl2 (c, ((some ⟨D, 0, none⟩, n1, n1), jobPK c g i))) 59
  have HM7 := hid (HM6.out.below b7)
  have HRd7 := hid (HRd6.out.below b7)
  have B7 := hid (B6.out.trans (b7.mono (Nat.le_trans hB (Nat.le_of_lt (row_lt HM6.out.sx)))))
  have Hx := hid hx
  have HN7 := hid hn7
  have hB7 : Hid (B0 ≤ (V6.alloc (.cells #[.int .i64 (c : Int), .bool false, .bool false, .int .i64 (c : Int), .int .i64 3, .int .i64 (i : Int), .slice (some ⟨D, 0, none⟩) n1 n1] 59)).heap.size) := hid (Nat.le_trans hB (Nat.le_of_lt (row_lt HM7.out.sx)))
  clear b7 hn7 hx HM6 HRd6 B6 R6
  obtain ⟨i59, hi59, hz59, hs59, hb59⟩ := info_parts Try.info59
  refine wp_seq_k (fun K7 hK7 => ?_)
  go_wp2_with (at_builtin; refine hold ?_)
  unfold Hid
  refine wpList_append_wide_at rfl _ _ 55 rfl B0 59 i59 _ 7 64 Try.underlying55 hi59 hz59 hs59 hb59 rfl (by decide) (.slice m.pa m.P.length m.pc) m.P.length (m.P.flatMap hcl2) rfl HM7.out.rp.ow ⟨V6.heap.size, 0, none⟩ 1 1 (hcl2 x) rfl rfl HN7.out (hcl_one x.1 x.2) (by unfold maxLen; omega) (by omega) hB7.out ?_
  intro v' V8 o8 g8 _
  obtain ⟨va, vc, rfl, _, _, _⟩ := own_form o8
  have hlt := fun k hk => (HM7.out.rp.ow.lt k hk).1
  have HM8 := hid (HM7.out.appP o8 g8 (by rw [Hx.out]; show RdT 5 _ _ n1 _ _; exact HRd7.out) (by rw [Hx.out]; show n1 = (i :: List.replicate g 0).length; rw [List.length_cons, List.length_replicate, HN1.out]; omega))
  have B8 := hid (B7.out.grown g8 hB7.out hlt)
  clear o8 g8 hlt HM7 HRd7 B7 hB7 HN7 x0 x1 x2 x3 x4 x5
  go_wp2_with fail
  refine hK7.out _ _ ?_
  go_wp2_with fail
  refine q_frX (N := 486) HQ.out rfl ⟨⟨{ m with qb := qb2, qc := qc2, pa := va, pc := vc, P := m.P ++ [x] }, ⟨rfl, rfl, rfl, rfl, rfl, ?_, rfl, rfl, rfl, rfl, rfl, rfl⟩, HM8.out, ⟨?_, HR.out.a, HR.out.b⟩⟩, B8.out⟩
  · show Value.slice va (m.P.length + 1) vc = Value.slice va (m.P ++ [x]).length vc
    rw [List.length_append]
    rfl
  · show (m.P ++ [x]).map _ = s.put ++ [(c, jobPK c g i)]
    rw [List.map_append, HR.out.p, Hx.out]
    rfl
end Go.Proofs.Ytjiipmalahhcpaa
