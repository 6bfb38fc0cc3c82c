import Derived.Test.YthcbhmgjkecppaaB1
import Derived.Test.YthcbhmgjkecppaaAx
set_option maxRecDepth 100000
set_option linter.unusedSimpArgs false
namespace Go.X.Try
open Go.IntWalk
def stHp (g : Option Nat) (s : Option (Nat × Nat)) (last : Int) (X : List (List Sc)) : List Ob := [.cells g [slv 1 s, .int .i64 last], .rows (.recs 3 X)]
theorem f18 : F18 [] [] = some (.one (.ptr 0 0), stHp none none 0 []) := by
  simp -implicitDefEqProofs [F18, c18, upd, stHp, slv]
theorem f23n : F23 [.one .nilp] [] = some (.one (.int .i64 0), []) := by simp -implicitDefEqProofs [F23, c23, upd]
theorem f23 (s : Option (Nat × Nat)) (last : Int) (X : List (List Sc)) : F23 [.one (.ptr 0 0)] (stHp (some 0) s last X) = some (.one (.int .i64 last), stHp (some 0) s last X) := by
  simp -implicitDefEqProofs [F23, c23, upd, stHp]
theorem f80n (e : Int) : F80 [.one .nilp, .one (.int .i64 e)] [] = some (.one (.int .i64 (-1)), []) := by simp -implicitDefEqProofs [F80, c80, upd]
theorem f20n (e : Int) : F20 [.one .nilp, .one (.int .i64 e)] [] = some (.one (.bool false), []) := by simp -implicitDefEqProofs [F20, c20, upd, f80n]
theorem f21n (e : Int) : F21 [.one .nilp, .one (.int .i64 e)] [] = some (.tup [.one (.str ⟨#[]⟩), .one (.bool false)], []) := by simp -implicitDefEqProofs [F21, c21, upd, f80n]
theorem f43n (e : Int) : F43 [.one .nilp, .one (.int .i64 e)] [] = some (.one (.bool false), []) := by simp -implicitDefEqProofs [F43, c43, upd, f80n]
theorem f44n (e : Int) : F44 [.one .nilp, .one (.int .i64 e)] [] = some (.one (.int .i64 0), []) := by simp -implicitDefEqProofs [F44, c44, upd, f80n]
theorem f19n (t : ByteArray) : F19 [.one .nilp, .one (.str t)] [] = some (.tup [.one (.int .i64 0), .one (.int .i64 1)], []) := by simp -implicitDefEqProofs [F19, c19, upd]
theorem f22n : F22 [.one .nilp] [] = some (.one (.row 0), [.rows (.ints .i64 [])]) := by simp -implicitDefEqProofs [F22, c22, upd]
end Go.X.Try
