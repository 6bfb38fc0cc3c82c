import Derived.Test.YtmkfebnahaembaaB5
set_option maxRecDepth 100000
set_option linter.unusedSimpArgs false
namespace Go.X.Try
open Go.IntWalk
theorem e12 : F12 [] [] = some (.one (.bool true), []) := by
  have b20 : bl 20 = 5 := by decide +kernel
  have b4 : bl 4 = 3 := by decide +kernel
  have e1 := e13c 20 (by omega) (by omega)
  have e2 := e15e 16 4 (by omega) (by omega) (by omega) (by omega) (by simp [b4])
  simp [b20] at e1
  simp at e2
  clear b20 b4
  simp -implicitDefEqProofs [F12, c12, upd, e1, e2, e53]
end Go.X.Try
