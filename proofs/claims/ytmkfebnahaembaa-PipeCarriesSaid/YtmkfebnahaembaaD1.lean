import Derived.Test.YtmkfebnahaembaaB1
import Derived.Test.YtmkfebnahaembaaAt
set_option maxRecDepth 100000
set_option linter.unusedSimpArgs false
namespace Go.X.Try
open Go.IntWalk
theorem n22 : F22 [.one .nilp] [] = some (.tup [.agg [.int .u8 0, .int .u64 0, .bool false], .one (.bool false)], []) := by
  simp -implicitDefEqProofs [F22, c22, F47, c47, upd]
theorem tup0 : tupOf [] = .tup [] := rfl
theorem n44 : F44 [.one .nilp] [] = some (.tup [], []) := by
  simp -implicitDefEqProofs [F44, c44, upd, tup0]
theorem n20 (s : ByteArray) : F20 [.one .nilp, .one (.str s)] [] = some (.one (.bool false), []) := by
  simp -implicitDefEqProofs [F20, c20, upd]
theorem n41 (s : ByteArray) : F41 [.one .nilp, .one (.str s)] [] = some (.one (.bool false), []) := by
  simp -implicitDefEqProofs [F41, c41, upd]
theorem n24 : F24 [.one .nilp] [] = some (.one (.int .i64 0), []) := by
  simp -implicitDefEqProofs [F24, c24, upd]
theorem n46 : F46 [.one .nilp] [] = some (.one (.int .i64 0), []) := by
  simp -implicitDefEqProofs [F46, c46, upd]
theorem n47 : F47 [.one .nilp] [] = some (.one (.int .i64 0), []) := by
  simp -implicitDefEqProofs [F47, c47, upd]
theorem n21 (n : Int) : F21 [.one .nilp, .one (.int .i64 n)] [] = some (.one (.int .i64 0), []) := by
  have := n46
  rcases Int.lt_trichotomy n 0 with h | h | h
  · have h' : ¬ 0 < n := by omega
    simp -implicitDefEqProofs [F21, c21, upd, n46, h, h']
  · subst h; simp -implicitDefEqProofs [F21, c21, upd, n46]
  · have h' : ¬ n < 0 := by omega
    simp -implicitDefEqProofs [F21, c21, upd, n46, h, h']
theorem e9 (s : ByteArray) (n : Int) (h18 : F18 [] [] = some (.one (.bool true), [])) : F9 [.one (.str s), .one (.int .i64 n)] [] = some (.one (.bool true), []) := by
  simp -implicitDefEqProofs [F9, c9, upd, h18, n22, n44, n20, n41, n24, n46, n47, n21]
end Go.X.Try
