import Derived.Test.YthcbhmgjkecppaaNd
set_option maxRecDepth 100000
set_option linter.unusedSimpArgs false
set_option linter.unusedVariables false
namespace Go.X.Try
open Go.IntWalk
/-! ### room, Add -/
theorem f79a (last : Int) (E : List En) (hl : E.length < 8) : F79 [.one (.ptr 0 0)] (stE (some 0) last E) = some (.one (.bool true), stE (some 0) last E) := by
  have h : (E.length : Int) < 8 := by omega
  simp -implicitDefEqProofs [F79, c79, upd, stE, RC.len, h]
theorem f79n (last : Int) (E : List En) (hl : E.length = 8) (h : fndI (fun x => x.hd == 0 && x.ep != last) E = -1) : F79 [.one (.ptr 0 0)] (stE (some 0) last E) = some (.one (.bool false), stE (some 0) last E) := by
  have e1 := f101b last E (by omega)
  rw [h, out102] at e1
  simp -implicitDefEqProofs [F79, c79, upd, stE, RC.len, hl, e1]
theorem f103 (X : List (List Sc)) (j : Nat) (h : j < X.length) : F103 [.one (.row 0), .one (.int .i64 j), .one (.int .i64 (j + 1))] [.rows none (.recs 3 X)] = some (.one (.row 0), [.rows none (.recs 3 (X.take j ++ X.drop (j + 1)))]) := by
  simp [F103, Go.Proofs.dl103F, h]
theorem f79y (last : Int) (E : List En) (j : Nat) (hl : E.length = 8) (h : fndI (fun x => x.hd == 0 && x.ep != last) E = j) (hj : j < E.length) : F79 [.one (.ptr 0 0)] (stE (some 0) last E) = some (.one (.bool true), stE (some 0) last (E.take j ++ E.drop (j + 1))) := by
  have e1 := f101b last E (by omega)
  rw [h, out102] at e1
  have e2 := f103 (E.map En.sc) j (by simpa using hj)
  have w : IntKind.i64.wrap ((j : Int) + 1) = j + 1 := i64_in _ (by omega)
  have hj0 : ¬ (j : Int) < 0 := by omega
  simp -implicitDefEqProofs [F79, c79, upd, stE, RC.len, hl, e1, e2, w, hj0]
end Go.X.Try
