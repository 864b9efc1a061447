/- The walk stops at the operation that fills a given slot. -/
import Derived.WalkKit
namespace Go.Proofs.Ytkgnelmnadnbhaa
set_option linter.unusedVariables false
open Go.RowKit

theorem at_dst {P : Program} {ops : Array Oper} {Q : Exit → Act → World → Prop} {rest : List Oper} {a : Act} {w : World} (d : Nat) {op : Op} {t : TypeId} {pos : String} {after : Array Edge} {guard : Option (Nat × Bool)}
    (h : Hid (wpList P ops Q ({ dst := some d, op := op, type := t, pos := pos, after := after, guard := guard } :: rest) a w)) : wpList P ops Q ({ dst := some d, op := op, type := t, pos := pos, after := after, guard := guard } :: rest) a w := h
end Go.Proofs.Ytkgnelmnadnbhaa
