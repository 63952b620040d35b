/-
  The walk stops ahead of an operation that is named. No condition.
-/
import Derived.Test.YtmooflmhbpckjaaKL
set_option linter.unusedVariables false
set_option linter.unusedSimpArgs false
namespace Go.Proofs.Ytmooflmhbpckjaa
open Go.RowKit

/-- here the walk stops -/
structure Halt (p : Prop) : Prop where
  go : p

section
variable {ops : Array Oper} {rest : List Oper} {o : Oper} {a : Act} {w : World} {Q : Exit → Act → World → Prop}
theorem stop_at (x : Op) (ho : o.op = x) (h : Halt (wpList Try.prog ops Q (o :: rest) a w)) : wpList Try.prog ops Q (o :: rest) a w := h.go
end
end Go.Proofs.Ytmooflmhbpckjaa
