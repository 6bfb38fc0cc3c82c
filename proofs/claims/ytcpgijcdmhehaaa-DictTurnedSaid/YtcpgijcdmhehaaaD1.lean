import Derived.Test.YtcpgijcdmhehaaaB1
import Derived.Test.YtcpgijcdmhehaaaAt
set_option maxRecDepth 100000
set_option linter.unusedSimpArgs false
namespace Go.X.Try
open Go.IntWalk
theorem n39 : F39 [.one .nilp] [] = some (.tup [.agg [.int .u8 0, .int .u64 0, .bool false], .one (.bool false)], []) := by
  simp -implicitDefEqProofs [F39, c39, F72, c72, upd]
theorem tup0 : tupOf [] = .tup [] := rfl
theorem n30 (s : ByteArray) : F30 [.one .nilp, .one (.str s)] [] = some (.one (.bool false), []) := by
  simp -implicitDefEqProofs [F30, c30, upd]
theorem n38 (s : ByteArray) : F38 [.one .nilp, .one (.str s)] [] = some (.one (.bool false), []) := by
  simp -implicitDefEqProofs [F38, c38, upd]
theorem n66 : F66 [.one .nilp] [] = some (.one (.int .i64 0), []) := by
  simp -implicitDefEqProofs [F66, c66, upd]
theorem n69 : F69 [.one .nilp] [] = some (.one (.int .i64 0), []) := by
  simp -implicitDefEqProofs [F69, c69, upd]
theorem n72 : F72 [.one .nilp] [] = some (.one (.int .i64 0), []) := by
  simp -implicitDefEqProofs [F72, c72, upd]
theorem n31 (n : Int) : F31 [.one .nilp, .one (.int .i64 n)] [] = some (.one (.int .i64 0), []) := by
  have := n69
  rcases Int.lt_trichotomy n 0 with h | h | h
  · have h' : ¬ 0 < n := by omega
    simp -implicitDefEqProofs [F31, c31, upd, n69, h, h']
  · subst h; simp -implicitDefEqProofs [F31, c31, upd, n69]
  · have h' : ¬ n < 0 := by omega
    simp -implicitDefEqProofs [F31, c31, upd, n69, h, h']
end Go.X.Try
