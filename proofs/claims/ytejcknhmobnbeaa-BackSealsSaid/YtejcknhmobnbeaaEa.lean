import Derived.Test.YtejcknhmobnbeaaB1
import Derived.Test.YtejcknhmobnbeaaAw
set_option maxRecDepth 100000
set_option linter.unusedSimpArgs false
namespace Go.X.Try
open Go.IntWalk
def bufHp (g : Option Nat) (bs : List Int) (n : Int) : List Ob := [.cells g [.row 1, .int .i64 n], .rows (.ints .u8 bs)]
theorem f63a (n : Int) (h : 0 ≤ n ∧ n ≤ 32) : F63 [.one (.int .i64 n)] [] = some (.one (.bool true), []) := by
  obtain ⟨h1, h2⟩ := h
  simp -implicitDefEqProofs [F63, c63, h1, h2]
theorem f63b (n : Int) (h : n < 0 ∨ 32 < n) : F63 [.one (.int .i64 n)] [] = some (.one (.bool false), []) := by
  by_cases h1 : 0 ≤ n
  · have h2 : ¬ n ≤ 32 := by omega
    simp -implicitDefEqProofs [F63, c63, h1, h2]
  · simp -implicitDefEqProofs [F63, c63, h1]
def canon28 (n v got : Int) (bs : List Int) (at_ : Int) : St :=
  ⟨[(0, .one (.ptr 0 0)), (1, .one (.int .i64 n)), (6, .one (.int .u32 v)), (7, .one (.int .i64 got))], [.ptr 0 0, .int .i64 n], bufHp (some 0) bs at_⟩
