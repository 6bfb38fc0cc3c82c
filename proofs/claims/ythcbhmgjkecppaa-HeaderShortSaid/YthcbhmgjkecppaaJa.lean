import Derived.Test.YthcbhmgjkecppaaB1
import Derived.Test.YthcbhmgjkecppaaAx
set_option maxRecDepth 100000
set_option linter.unusedSimpArgs false
namespace Go.X.Try
open Go.IntWalk
theorem e83a (t : Nat) : F83 [.one (.ro t (.ints .i64 [3, 1]))] [] = some (.one (.int .i64 4), []) := by
  simp -implicitDefEqProofs [F83, c83, b83x0, upd, loop_go0, loop_go1, IntKind.wrap_i64, RC.len, RC.size, RC.get]
theorem e83b (t : Nat) : F83 [.one (.ro t (.ints .i64 [24, 8]))] [] = some (.one (.int .i64 32), []) := by
  simp -implicitDefEqProofs [F83, c83, b83x0, upd, loop_go0, loop_go1, IntKind.wrap_i64, RC.len, RC.size, RC.get]
theorem e81 (t : Nat) : F81 [.one (.ro t (.ints .i64 [3, 1]))] [] = some (.one (.bool true), []) := by
  simp -implicitDefEqProofs [F81, c81, b81x0, upd, loop_go0, loop_go1, e83a, IntKind.wrap_i64, RC.len, RC.size, RC.get]
theorem e77 (n : Int) : F77 [.one (.int .i64 n)] [] = some (.one (.bool (decide (5 ≤ n ∧ n ≤ 9))), []) := by
  by_cases h : 5 ≤ n
  · by_cases h2 : n ≤ 9
    · simp -implicitDefEqProofs [F77, c77, upd, h, h2]
    · simp -implicitDefEqProofs [F77, c77, upd, h, h2]
  · simp -implicitDefEqProofs [F77, c77, upd, h]
theorem e27a (t : Nat) : F27 [.one (.ro t (.ints .i64 [3, 1]))] [] = some (.one (.int .i64 2), []) := by
  simp -implicitDefEqProofs [F27, c27, b27x0, upd, loop_go0, loop_go1, IntKind.wrap_i64, RC.len, RC.size, RC.get]
theorem e27b (t : Nat) : F27 [.one (.ro t (.ints .i64 [0, 2]))] [] = some (.one (.int .i64 1), []) := by
  simp -implicitDefEqProofs [F27, c27, b27x0, upd, loop_go0, loop_go1, IntKind.wrap_i64, RC.len, RC.size, RC.get]
theorem e82 (t : Nat) : F82 [.one (.ro t (.ints .i64 [3, 1])), .one (.int .i64 32)] [] = some (.one (.row 0), [.rows (.ints .i64 [24, 8])]) := by
  simp (maxSteps := 1000000) -implicitDefEqProofs [F82, c82, b82x0, upd, loop_go0, loop_go1, e83a, IntKind.wrap_i64, RC.len, RC.size, RC.get, RC.set, RC.ofElems]
theorem e29 (t : Nat) : F29 [.one (.ro t (.ints .i64 [3, 1])), .one (.int .i64 5)] [] = some (.tup [.one (.row 0), .one (.bool true)], [.rows (.ints .i64 [24, 8])]) := by
  have s5 : shlI .i64 1 5 = 32 := by decide
  have e77 := e77 5
  simp (maxSteps := 1000000) -implicitDefEqProofs [F29, c29, b29x0, upd, loop_go0, loop_go1, e81, e77, e27a, e82, e83b, s5, IntKind.wrap_i64, RC.len, RC.size, RC.get]
theorem h14 : F14 [] [] = some (.one (.bool true), []) := by
  simp (maxSteps := 1000000) -implicitDefEqProofs [F14, c14, upd, e29, e27b, RC.len, RC.size, RC.get, RC.ofElems]
end Go.X.Try
