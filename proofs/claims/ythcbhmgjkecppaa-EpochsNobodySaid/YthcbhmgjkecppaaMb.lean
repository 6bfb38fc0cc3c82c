import Derived.Test.YthcbhmgjkecppaaMa
set_option maxRecDepth 100000
set_option linter.unusedSimpArgs false
namespace Go.X.Try
open Go.IntWalk
theorem f104 (ep e held : Int) (t : ByteArray) : F104 [.agg [.int .i64 ep, .str t, .int .i64 held], .one (.ptr 0 0)] [.cells (some 0) [.int .i64 e]] = some (.one (.bool (ep == e)), [.cells (some 0) [.int .i64 e]]) := by
  simp -implicitDefEqProofs [F104, c104, upd]
def ixHp (e : Int) : List Ob := [.cells (some 0) [.int .i64 e]]
theorem f101e (e : Int) : F101 [.one (.ro 0 (.recs 3 [])), .one (.fn 104 [.ptr 0 0])] (ixHp e) = some (.one (.int .i64 (-1)), ixHp e) := by
  simp -implicitDefEqProofs [F101, c101, b101x0, ixHp, upd, loop_go0, loop_go1, RC.len]
theorem f101c (e ep held : Int) (t : ByteArray) (X : List (List Sc)) (hX : X.length ≤ 1000) (h : ep = e) : F101 [.one (.ro 0 (.recs 3 ([.int .i64 ep, .str t, .int .i64 held] :: X))), .one (.fn 104 [.ptr 0 0])] (ixHp e) = some (.one (.int .i64 0), ixHp e) := by
  subst h
  have e104 := f104 ep ep held t
  rw [beq_self_eq_true] at e104
  have h1 : (0 : Int) < (X.length : Int) + 1 := by omega
  simp -implicitDefEqProofs [F101, c101, b101x0, ixHp, upd, loop_go0, loop_go1, RC.len, RC.size, RC.elem, takeE, e104, h1]
theorem f80e (e last : Int) : F80 [.one (.ptr 0 0), .one (.int .i64 e)] (stHp (some 0) none last []) = some (.one (.int .i64 (-1)), stHp (some 0) none last []) := by
  have e1 := f101e e
  simp only [ixHp] at e1
  simp -implicitDefEqProofs [F80, c80, upd, stHp, slv, e1]
theorem f80c (e last ep held : Int) (t : ByteArray) (X : List (List Sc)) (hX : X.length ≤ 1000) (h : ep = e) : F80 [.one (.ptr 0 0), .one (.int .i64 e)] (stHp (some 0) none last ([.int .i64 ep, .str t, .int .i64 held] :: X)) = some (.one (.int .i64 0), stHp (some 0) none last ([.int .i64 ep, .str t, .int .i64 held] :: X)) := by
  have e1 := f101c e ep held t X hX h
  simp only [ixHp] at e1
  simp -implicitDefEqProofs [F80, c80, upd, stHp, slv, e1]
theorem f79 (last : Int) (X : List (List Sc)) (h : X.length < 8) : F79 [.one (.ptr 0 0)] (stHp (some 0) none last X) = some (.one (.bool true), stHp (some 0) none last X) := by
  have h1 : (X.length : Int) < 8 := by omega
  simp -implicitDefEqProofs [F79, c79, upd, stHp, slv, RC.len, h, h1]
theorem f19 (last last' : Int) (X : List (List Sc)) (t : ByteArray) (h : X.length < 8) (ht : t.size ≤ 256) (w : IntKind.i64.wrap (last + 1) = last') : F19 [.one (.ptr 0 0), .one (.str t)] (stHp (some 0) none last X) = some (.tup [.one (.int .i64 last'), .one (.int .i64 0)], stHp (some 0) none last' (X ++ [[.int .i64 last', .str t, .int .i64 0]])) := by
  have e79 := f79 last X h
  have ht1 : ¬ (256 : Int) < t.size := by omega
  have ht2 : ¬ 256 < t.size := by omega
  have hm : (X.length + 1) * 32 ≤ 140737488355328 := by omega
  simp only [stHp] at e79
  simp only [slv] at e79
  simp -implicitDefEqProofs [F19, c19, upd, stHp, slv, e79, ht1, ht2, w, hm, RC.len, RC.size, RC.app, RC.ofElems]
theorem f21e (e last : Int) : F21 [.one (.ptr 0 0), .one (.int .i64 e)] (stHp (some 0) none last []) = some (.tup [.one (.str ⟨#[]⟩), .one (.bool false)], stHp (some 0) none last []) := by
  have e1 := f80e e last
  simp only [stHp, slv] at e1
  simp -implicitDefEqProofs [F21, c21, upd, stHp, slv, e1]
theorem f21c (e last ep held : Int) (t : ByteArray) (X : List (List Sc)) (hX : X.length ≤ 1000) (h : ep = e) : F21 [.one (.ptr 0 0), .one (.int .i64 e)] (stHp (some 0) none last ([.int .i64 ep, .str t, .int .i64 held] :: X)) = some (.tup [.one (.str t), .one (.bool true)], stHp (some 0) none last ([.int .i64 ep, .str t, .int .i64 held] :: X)) := by
  have e1 := f80c e last ep held t X hX h
  simp only [stHp, slv] at e1
  simp -implicitDefEqProofs [F21, c21, upd, stHp, slv, e1, RC.len, RC.size, RC.elem, takeE]
theorem f20c (e last ep held held' : Int) (t : ByteArray) (X : List (List Sc)) (hX : X.length ≤ 1000) (h : ep = e) (w : IntKind.i64.wrap (held + 1) = held') : F20 [.one (.ptr 0 0), .one (.int .i64 e)] (stHp (some 0) none last ([.int .i64 ep, .str t, .int .i64 held] :: X)) = some (.one (.bool true), stHp (some 0) none last ([.int .i64 ep, .str t, .int .i64 held'] :: X)) := by
  have e1 := f80c e last ep held t X hX h
  simp only [stHp, slv] at e1
  simp -implicitDefEqProofs [F20, c20, upd, stHp, slv, e1, w, RC.len, RC.size, RC.elem, takeE, RC.set]
theorem f44c (e last ep held : Int) (t : ByteArray) (X : List (List Sc)) (hX : X.length ≤ 1000) (h : ep = e) : F44 [.one (.ptr 0 0), .one (.int .i64 e)] (stHp (some 0) none last ([.int .i64 ep, .str t, .int .i64 held] :: X)) = some (.one (.int .i64 held), stHp (some 0) none last ([.int .i64 ep, .str t, .int .i64 held] :: X)) := by
  have e1 := f80c e last ep held t X hX h
  simp only [stHp, slv] at e1
  simp -implicitDefEqProofs [F44, c44, upd, stHp, slv, e1, RC.len, RC.size, RC.elem, takeE]
theorem f22e (last : Int) : F22 [.one (.ptr 0 0)] (stHp (some 0) none last []) = some (.one (.row 2), stHp (some 0) none last [] ++ [.rows (.ints .i64 [])]) := by
  simp -implicitDefEqProofs [F22, c22, b22x0, upd, stHp, slv, loop_go0, loop_go1, RC.len]
end Go.X.Try
