import Derived.Test.YthcbhmgjkecppaaB1
import Derived.Test.YthcbhmgjkecppaaAt
set_option maxRecDepth 100000
set_option linter.unusedSimpArgs false
namespace Go.X.Try
open Go.IntWalk
theorem n65 : F65 [.one .nilp] [] = some (.tup [.agg [.int .u8 0, .int .u64 0, .bool false], .one (.bool false)], []) := by
  simp -implicitDefEqProofs [F65, c65, F61, c61, upd]
theorem tup0 : tupOf [] = .tup [] := rfl
theorem n107 : F107 [.one .nilp] [] = some (.tup [], []) := by
  simp -implicitDefEqProofs [F107, c107, upd, tup0]
theorem n39 (s : ByteArray) : F39 [.one .nilp, .one (.str s)] [] = some (.one (.bool false), []) := by
  simp -implicitDefEqProofs [F39, c39, upd]
theorem n59 (s : ByteArray) : F59 [.one .nilp, .one (.str s)] [] = some (.one (.bool false), []) := by
  simp -implicitDefEqProofs [F59, c59, upd]
theorem n86 : F86 [.one .nilp] [] = some (.one (.int .i64 0), []) := by
  simp -implicitDefEqProofs [F86, c86, upd]
theorem n60 : F60 [.one .nilp] [] = some (.one (.int .i64 0), []) := by
  simp -implicitDefEqProofs [F60, c60, upd]
theorem n61 : F61 [.one .nilp] [] = some (.one (.int .i64 0), []) := by
  simp -implicitDefEqProofs [F61, c61, upd]
theorem n40 (n : Int) : F40 [.one .nilp, .one (.int .i64 n)] [] = some (.one (.int .i64 0), []) := by
  have := n60
  rcases Int.lt_trichotomy n 0 with h | h | h
  · have h' : ¬ 0 < n := by omega
    simp -implicitDefEqProofs [F40, c40, upd, n60, h, h']
  · subst h; simp -implicitDefEqProofs [F40, c40, upd, n60]
  · have h' : ¬ n < 0 := by omega
    simp -implicitDefEqProofs [F40, c40, upd, n60, h, h']
end Go.X.Try
