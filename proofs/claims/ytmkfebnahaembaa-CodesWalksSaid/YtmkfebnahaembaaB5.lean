import Derived.Test.YtmkfebnahaembaaB4
set_option maxRecDepth 100000
set_option linter.unusedSimpArgs false
namespace Go.X.Try
open Go.IntWalk
theorem e53 : F53 [] [] = some (.agg [.int .i64 1, .int .i64 2, .int .i64 4], []) := by
  simp [F53, c53]
end Go.X.Try
