/- Rows whose elements have c cells each, as one list of cells. -/
import Derived.Test.YtjiipmalahhcpaaTurns7
import Derived.Test.YtjiipmalahhcpaaTurns6
namespace Go.Proofs.Ytjiipmalahhcpaa
set_option linter.unusedVariables false
open Go.RowKit

theorem flat_len {α : Type} (f : α → List Value) (c : Nat) (hf : ∀ x, (f x).length = c) (l : List α) : (l.flatMap f).length = l.length * c := by
  induction l with
  | nil => simp
  | cons x l ih => rw [List.flatMap_cons, List.length_append, ih, hf, List.length_cons, Nat.add_mul, Nat.one_mul, Nat.add_comm]
theorem flat_snoc {α : Type} (f : α → List Value) (l : List α) (x : α) : (l ++ [x]).flatMap f = l.flatMap f ++ f x := by simp
theorem flat_at {α : Type} (f : α → List Value) (c : Nat) (hf : ∀ x, (f x).length = c) (l : List α) (j : Nat) (h : j < l.length) (k : Nat) (hk : k < c) : (l.flatMap f)[j * c + k]? = (f (l[j]))[k]? := by
  induction l generalizing j with
  | nil => simp at h
  | cons x l ih =>
    rw [List.flatMap_cons]
    cases j with
    | zero => rw [List.getElem?_append_left (by rw [hf]; omega)]; simp
    | succ j =>
      have e : (j + 1) * c + k = c + (j * c + k) := by rw [Nat.add_mul, Nat.one_mul]; omega
      rw [List.getElem?_append_right (by rw [hf]; omega), hf, e, Nat.add_sub_cancel_left, ih j (by simpa using h)]
      simp
/-- a row of an own block, read at element j, cell k -/
theorem own_flat {α : Type} {w : World} {B e c n cap : Nat} {g : Nat} (f : α → List Value) (hf : ∀ x, (f x).length = c) {l : List α} (h : w.ownsRow B e c (.slice (some ⟨g, 0, none⟩) n cap) n (l.flatMap f)) (hl : l.length = n) (j : Nat) (hj : j < n) (k : Nat) (hk : k < c) :
    w.cell? ⟨g, j * c + k, none⟩ = (f (l[j]'(by omega)))[k]? := by
  have h1 : (j + 1) * c ≤ n * c := Nat.mul_le_mul_right _ hj
  rw [Nat.add_mul, Nat.one_mul] at h1
  rw [h.cellAt _ (by omega), flat_at f c hf l j (by omega) k hk]
/-- a block made of a list of cells, read -/
theorem new_cells (w : World) (l : List Value) (e : TypeId) : ∀ (j : Nat) (x : Value), l[j]? = some x → (w.alloc (.cells l.toArray e)).cell? ((⟨w.heap.size, 0, none⟩ : Addr).add j) = some x := by
  intro j x hj
  rw [Addr.add_lit, World.cell?_alloc_at _ _ _ _ rfl, Nat.zero_add]
  simpa using hj
end Go.Proofs.Ytjiipmalahhcpaa
/- frame: small functions: in, makes, one. -/
namespace Go.Proofs.Ytjiipmalahhcpaa
set_option linter.unusedVariables false
open Go.RowKit

set_option maxRecDepth 1000000 in
theorem in_f (n m : Int) (w : World) (h0 : 0 ≤ n) (h1 : n ≤ m) : Calls Try.prog 19 #[.int .i64 n, .int .i64 m] w fun e w' => e = .returned (.bool true) ∧ w' = w := by
  have d1 : decide (0 ≤ n) = true := decide_eq_true h0
  have d2 : decide (n ≤ m) = true := decide_eq_true h1
  go_enter Try.func19, Try.ntmps19
  go_wp2
  go_ret
  exact ⟨rfl, rfl⟩
set_option maxRecDepth 1000000 in
theorem makes_ok (c s : Nat) (w : World) (hc : c ≤ 1023) (hs : 13 ≤ s) (hs2 : s ≤ 2048) : Calls Try.prog 14 #[.int .i64 (c : Int), .int .i64 (s : Int)] w fun e w' => e = .returned (.int .i64 0) ∧ w' = w := by
  have d1 : decide ((s : Int) < 13) = false := decide_eq_false (by omega)
  have d2 : decide ((2048 : Int) < (s : Int)) = false := decide_eq_false (by omega)
  have d3 : decide (s < 13) = false := decide_eq_false (by omega)
  have d4 : decide (2048 < s) = false := decide_eq_false (by omega)
  go_enter Try.func14, Try.ntmps14
  go_wp2_with ((go_at_call 19; refine (in_f _ _ _ (by omega) (by omega)).mono ?_; rintro e w' ⟨rfl, rfl⟩))
  go_ret
  exact ⟨rfl, rfl⟩
/-- bytes that are a packet's -/
structure IsEnc (bs : List Nat) : Prop where
  ex : ∃ up se ap pt ct ds, bs = encB up se ap pt ct ds ∧ AllB ds ∧ ap ≤ 2047 ∧ pt ≤ 3 ∧ ct ≤ 16383 ∧ 0 < ds.length ∧ ds.length ≤ 65536
theorem IsEnc.len {bs : List Nat} (h : IsEnc bs) : 7 ≤ bs.length ∧ bs.length ≤ 65542 := by
  obtain ⟨up, se, ap, pt, ct, ds, rfl, _, _, _, _, h1, h2⟩ := h.ex
  rw [enc_len]
  omega
theorem IsEnc.allB {bs : List Nat} (h : IsEnc bs) : AllB bs := by
  obtain ⟨up, se, ap, pt, ct, ds, rfl, h0, h1, h2, h3, h4, h5⟩ := h.ex
  exact enc_all up se ap pt ct ds h1 h2 h3 h5 h0
set_option maxRecDepth 1000000 in
set_option maxHeartbeats 1000000 in
theorem one_ok (a : Option Addr) (n c : Nat) (bs : List Nat) (w : World) (hr : Rd w a n c (vb bs)) (h : IsEnc bs) :
    Calls Try.prog 20 #[.slice a n c] w fun e w' => e = .returned (.bool true) ∧ Below w.heap.size w w' := by
  obtain ⟨up, se, ap, pt, ct, ds, rfl, h0, h1, h2, h3, h4, h5⟩ := h.ex
  have hd := decode_enc a n c up se ap pt ct ds [] w (by rw [List.append_nil]; exact hr) h0 (fun x hx => by simp at hx) h1 h2 h3 h4 h5
  have hn : 6 + ds.length = n := by have := hr.len; rw [vb_len, enc_len] at this; exact this
  have d1 : (((6 + ds.length : Nat) : Int) == (n : Int)) = true := by rw [hn]; simp
  rw [hn] at hd
  have Hn := hid hn
  clear hr h h0 h1 h2 h3 d1 hn
  go_enter Try.func20, Try.ntmps20
  refine wp_seq_k (fun K0 hK0 => ?_)
  go_wp2_with fail
  refine hK0.out _ _ ?_
  refine wp_seq_k (fun K1 hK1 => ?_)
  go_wp2_with fail
  refine hd.mono ?_
  rintro e W1 ⟨ao, cc, rfl, _, hb1⟩
  have B1 := hid hb1
  clear hb1 hd
  go_wp2_with fail
  refine hK1.out _ _ ?_
  have B2 := hid (B1.out.trans ((below_alloc W1 (.cells #[.bool up, .bool se, .int .i64 ap, .int .i64 pt, .int .i64 ct, .slice ao ds.length cc] 38)).mono B1.out.size))
  generalize W1.alloc (.cells #[.bool up, .bool se, .int .i64 ap, .int .i64 pt, .int .i64 ct, .slice ao ds.length cc] 38) = W2 at *
  go_wp2_with fail
  go_ret
  exact ⟨rfl, B2.out⟩
end Go.Proofs.Ytjiipmalahhcpaa
