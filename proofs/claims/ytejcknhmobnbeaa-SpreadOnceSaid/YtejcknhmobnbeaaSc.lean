import Derived.Test.YtejcknhmobnbeaaSa
import Derived.Test.YtejcknhmobnbeaaAx
set_option maxRecDepth 100000
set_option linter.unusedSimpArgs false
namespace Go.X.Try
open Go.IntWalk
theorem e70 (n : Int) : F70 [.one (.int .i64 n)] [] = some (.one (.bool (decide (5 ≤ n ∧ n ≤ 9))), []) := by
  by_cases h : 5 ≤ n
  · by_cases h2 : n ≤ 9
    · simp -implicitDefEqProofs [F70, c70, upd, h, h2]
    · simp -implicitDefEqProofs [F70, c70, upd, h, h2]
  · simp -implicitDefEqProofs [F70, c70, upd, h]
end Go.X.Try
