/- Keys: what is sealed, taken apart again. -/
import Derived.Test.YtdeeilahefnicaaOpenK
namespace Go.Proofs.Ytdeeilahefnicaa
set_option linter.unusedVariables false
open Go.RowKit

theorem Sl_zero (id : Nat) (ws : List Int) (c : Nat) (bs : List Nat) : nth (Sl id ws c bs) 0 = id := by
  unfold Sl Pre hd hd hd hd hd hd hd
  simp [nth]
theorem Sl_num (id : Nat) (ws : List Int) (c : Nat) (bs : List Nat) (hc : c < 281474976710656) : numN (((Sl id ws c bs).drop 1).take 6) = c := by
  unfold Sl Pre hd hd hd hd hd hd hd
  simp [numN]
  omega
theorem Sl_pre (id : Nat) (ws : List Int) (c : Nat) (bs : List Nat) : (Sl id ws c bs).take (bs.length + 7) = Pre id ws c bs := by
  unfold Sl
  rw [List.take_append_of_le_length (by rw [Pre_len]; exact Nat.le_refl _), List.take_of_length_le (by rw [Pre_len]; exact Nat.le_refl _)]
theorem Sl_tag (id : Nat) (ws : List Int) (c : Nat) (bs : List Nat) : (Sl id ws c bs).drop (bs.length + 7) = Tg ws c (Pre id ws c bs) := by
  unfold Sl
  rw [← Pre_len id ws c bs, List.drop_left]
theorem Sl_body (id : Nat) (ws : List Int) (c : Nat) (bs : List Nat) : ((Sl id ws c bs).drop 7).take bs.length = Cv ws c bs := by
  unfold Sl Pre
  rw [List.append_assoc, List.drop_left' (hd_len id c 6), List.take_append_of_le_length (by rw [Cv_len]; exact Nat.le_refl _), List.take_of_length_le (by rw [Cv_len]; exact Nat.le_refl _)]
/-- with one byte of the tag turned -/
theorem set_zero (bs : List Nat) (k x : Nat) (h : 0 < k) : nth (bs.set k x) 0 = nth bs 0 := by
  unfold nth
  simp only [List.getD_eq_getElem?_getD, List.getElem?_set]
  rw [if_neg (by omega)]
theorem set_cut (bs : List Nat) (k x m : Nat) (h : m ≤ k) : (bs.set k x).take m = bs.take m := by
  rw [List.take_set, List.set_eq_of_length_le (by rw [List.length_take]; omega)]
theorem set_num (bs : List Nat) (k x : Nat) (h : 7 ≤ k) : ((bs.set k x).drop 1).take 6 = (bs.drop 1).take 6 := by
  rw [List.take_drop, List.take_drop, set_cut _ _ _ _ (by omega)]
theorem set_tag (bs : List Nat) (k x m : Nat) (hm : m ≤ k) (hk : k < bs.length) (hx : x ≠ nth bs k) : (bs.set k x).drop m ≠ bs.drop m := by
  intro h
  have h1 := congrArg (fun l => nth l (k - m)) h
  have key : ∀ l : List Nat, nth (l.drop m) (k - m) = nth l k := by
    intro l
    unfold nth
    simp only [List.getD_eq_getElem?_getD, List.getElem?_drop]
    rw [show m + (k - m) = k by omega]
  rw [key, key, nth_set _ _ _ _ hk, if_pos rfl] at h1
  exact hx h1
theorem xor_ne (x y : Nat) (h : 0 < y) : x ^^^ y ≠ x := by
  intro e
  have h1 : x ^^^ y ^^^ x = x ^^^ x := by rw [e]
  rw [Nat.xor_self, Nat.xor_comm x y, Nat.xor_assoc, Nat.xor_self, Nat.xor_zero] at h1
  omega
theorem ok_new (p : Nat) (ws : List Int) (hp : p < 256) (hw : Words ws) : KeyOk (p : Int) (-1) 0 ws :=
  ⟨⟨by omega, by omega⟩, hw, ⟨by omega, by omega⟩, ⟨by omega, by omega⟩, 0, by decide, by decide⟩
end Go.Proofs.Ytdeeilahefnicaa
