import Derived.Test.YtcpgijcdmhehaaaD3
import Derived.Test.YtcpgijcdmhehaaaAu
set_option maxRecDepth 100000
set_option linter.unusedSimpArgs false
namespace Go.X.Try
open Go.IntWalk
def slen (X : List (List Sc)) : Option (Nat × Nat) → Nat
  | none => X.length
  | some (_, n) => n
def pipeHp (g : Option Nat) (most : Int) (sf sc : Option (Nat × Nat)) (X Y : List (List Sc)) (h n : Int) : List Ob := [.cells g (pipeCells most (slv 1 sf) (slv 2 sc) h n), .rows (.recs 3 X), .rows (.recs 3 Y)]
theorem f69 (most h n : Int) (sf sc : Option (Nat × Nat)) (X Y : List (List Sc)) : F69 [.one (.ptr 0 0)] (pipeHp (some 0) most sf sc X Y h n) = some (.one (.int .i64 (slen X sf)), pipeHp (some 0) most sf sc X Y h n) := by
  cases sf <;> cases sc <;> simp -implicitDefEqProofs [F69, c69, upd, pipeHp, pipeCells, slv, slen, RC.len]
theorem f72 (most h n : Int) (sf sc : Option (Nat × Nat)) (X Y : List (List Sc)) : F72 [.one (.ptr 0 0)] (pipeHp (some 0) most sf sc X Y h n) = some (.one (.int .i64 (slen Y sc)), pipeHp (some 0) most sf sc X Y h n) := by
  cases sf <;> cases sc <;> simp -implicitDefEqProofs [F72, c72, upd, pipeHp, pipeCells, slv, slen, RC.len]
theorem f66 (most h n : Int) (sf sc : Option (Nat × Nat)) (X Y : List (List Sc)) (hw : 0 ≤ most ∧ most ≤ 2048) (h1 : slen X sf ≤ 4000) (h2 : slen Y sc ≤ 4000) :
    F66 [.one (.ptr 0 0)] (pipeHp (some 0) most sf sc X Y h n) = some (.one (.int .i64 (most - slen X sf - slen Y sc)), pipeHp (some 0) most sf sc X Y h n) := by
  have w1 : IntKind.i64.wrap (most - slen X sf) = most - slen X sf := i64_in _ (by omega)
  have w2 : IntKind.i64.wrap (most - slen X sf - slen Y sc) = most - slen X sf - slen Y sc := i64_in _ (by omega)
  cases sf <;> cases sc <;> simp only [slen] at w1 w2 <;> simp -implicitDefEqProofs [F66, c66, upd, pipeHp, pipeCells, slv, slen, RC.len, w1, w2]
end Go.X.Try
