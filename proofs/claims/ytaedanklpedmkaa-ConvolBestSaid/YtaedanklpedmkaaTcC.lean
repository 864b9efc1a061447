/- A trellis' cells. -/
import Derived.Test.YtaedanklpedmkaaPayC
import Derived.Test.YtaedanklpedmkaaVitC
namespace Go.Proofs.Ytaedanklpedmkaa
set_option linter.unusedVariables false
open Go.RowKit

/-- the cells of a trellis: costs, orders, the choices so far -/
def tc (cost order : List Nat) (from_ : Value) : List Value := vi cost ++ (vi order ++ [from_])
theorem tc_cost {cost order : List Nat} {f : Value} (hc : cost.length = 64) (i : Nat) (h : i < 64) : (tc cost order f)[i]? = some (.int .i64 (nth cost i)) := by
  unfold tc
  rw [List.getElem?_append_left (by rw [vi_len]; omega), vi_get _ _ (by omega)]
theorem tc_order {cost order : List Nat} {f : Value} (hc : cost.length = 64) (ho : order.length = 64) (i : Nat) (h : i < 64) : (tc cost order f)[64 + i]? = some (.int .i64 (nth order i)) := by
  unfold tc
  rw [List.getElem?_append_right (by rw [vi_len]; omega), vi_len, hc, Nat.add_sub_cancel_left, List.getElem?_append_left (by rw [vi_len]; omega), vi_get _ _ (by omega)]
theorem tc_from {cost order : List Nat} {f : Value} (hc : cost.length = 64) (ho : order.length = 64) : (tc cost order f)[128]? = some f := by
  unfold tc
  rw [List.getElem?_append_right (by rw [vi_len]; omega), vi_len, hc, List.getElem?_append_right (by rw [vi_len]; omega), vi_len, ho]
  rfl
theorem tc_set_cost {cost order : List Nat} {f : Value} (hc : cost.length = 64) (i x : Nat) (h : i < 64) : (tc cost order f).set i (.int .i64 (x : Int)) = tc (cost.set i x) order f := by
  unfold tc
  rw [List.set_append_left _ _ (by rw [vi_len]; omega), vi_set]
theorem tc_set_order {cost order : List Nat} {f : Value} (hc : cost.length = 64) (ho : order.length = 64) (i x : Nat) (h : i < 64) : (tc cost order f).set (64 + i) (.int .i64 (x : Int)) = tc cost (order.set i x) f := by
  unfold tc
  rw [List.set_append_right _ _ (by rw [vi_len]; omega), vi_len, hc, Nat.add_sub_cancel_left, List.set_append_left _ _ (by rw [vi_len]; omega), vi_set]
theorem tc_set_from {cost order : List Nat} {f g : Value} (hc : cost.length = 64) (ho : order.length = 64) : (tc cost order f).set 128 g = tc cost order g := by
  unfold tc
  rw [List.set_append_right _ _ (by rw [vi_len]; omega), vi_len, hc, List.set_append_right _ _ (by rw [vi_len]; omega), vi_len, ho]
  rfl
theorem zero53 (w : World) : (zeroValue 53).run Try.prog w = .ok (.agg (tc (List.replicate 64 0) (List.replicate 64 0) (.slice none 0 0)).toArray) w := by kernel_rfl
theorem zero61 (w : World) : (zeroValue 61).run Try.prog w = .ok (.agg (vi (List.replicate 128 0)).toArray) w := by kernel_rfl

end Go.Proofs.Ytaedanklpedmkaa
